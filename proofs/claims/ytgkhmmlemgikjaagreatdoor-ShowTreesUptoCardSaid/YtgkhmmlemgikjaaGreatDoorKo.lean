/- Part Ko. No condition. -/
import Derived.Test.YtgkhmmlemgikjaaGreatDoorKn
import Derived.Test.YtgkhmmlemgikjaaGreatDoorKe
set_option linter.unusedVariables false
set_option linter.unusedSimpArgs false
namespace Go.Proofs.YtgkhmmlemgikjaaGreatDoor
open Go Ai
section
variable {L L':List Tk} {k:Nat} {d:Prop} {R R':Rd}
end
end Go.Proofs.YtgkhmmlemgikjaaGreatDoor
namespace Go.Proofs.YtgkhmmlemgikjaaGreatDoor
open Go Ai
theorem ones_get:∀(l:List Ex) (t i:Nat) (h:i<l.length),onesF l t=true→oneF l[i] ((t+i:Nat):Int)=true
 | x::l,t,0,_,h=>by simp only [onesF,Bool.and_eq_true] at h;exact h.1
 | x::l,t,i+1,hi,h=>by
  simp only [onesF,Bool.and_eq_true] at h
  have:=ones_get l (t+1) i (by simpa using hi) h.2
  rw [show t+(i+1)=t+1+i by omega];exact this
theorem one_parts {x:Ex} {t:Int} (h:oneF x t=true):∀c∈partsF x,0≤c∧c<t:=by
 intro c hc
 unfold oneF at h
 simp only [Bool.and_eq_true] at h
 have:=List.all_eq_true.1 h.1.1.1.1.2 c hc
 simpa using this
end Go.Proofs.YtgkhmmlemgikjaaGreatDoor
