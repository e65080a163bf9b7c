/- Part Kn. No condition. -/
import Derived.Test.YtgkhmmlemgikjaaGreatDoorKj
import Derived.Test.YtgkhmmlemgikjaaGreatDoorKk
set_option linter.unusedVariables false
set_option linter.unusedSimpArgs false
namespace Go.Proofs.YtgkhmmlemgikjaaGreatDoor
open Go Ai
section
variable {n r:Nat} {L:List Tk} {dv:AV} {dp:Nat} {s:St} {R:Rd}
def typedF (L:List Tk):RM Pm:=fun R=>(⟨(nameR L R).1,(kindR L (wantR L [58] (nameR L R).2)).1⟩,(kindR L (wantR L [58] (nameR L R).2)).2)
theorem goes_typed:GoesOn (typedF L):=fun _=>(Step.name.trans Step.want).trans Step.kind
theorem stk_pms:∀(m:Nat) (l:List Pm) (R:Rd),Stk R (pmsF L m l R).2
 | 0,_,_=>.refl
 | m+1,l,R=>fun hc=>by simp [pmsF,hc]
theorem stk_params:StkE (paramsF L):=fun R=>by
 unfold paramsF
 split
 ·exact Stk.want.trans .adv
 ·exact Stk.want.trans (stk_pms _ _ _)
end
end Go.Proofs.YtgkhmmlemgikjaaGreatDoor
namespace Go.Proofs.YtgkhmmlemgikjaaGreatDoor
open Go Ai
section
variable {n r:Nat} {L:List Tk} {dv:AV} {c0 c:Nat} {s0:St} {Z:List AV} {s:St} {R:Rd} {cs:List AV}
end
end Go.Proofs.YtgkhmmlemgikjaaGreatDoor
namespace Go.Proofs.YtgkhmmlemgikjaaGreatDoor
open Go Ai
section
variable {n r:Nat} {L:List Tk} {dv:AV} {c0 c:Nat} {s0:St} {Z:List AV} {s:St} {R:Rd} {cs:List AV}
theorem stk_sts:∀(m:Nat) (l:List Sx) (R:Rd),Stk R (stsF L m l R).2
 | 0,_,_=>.refl
 | m+1,l,R=>fun hc=>by simp [stsF,isR_stk hc]
end
end Go.Proofs.YtgkhmmlemgikjaaGreatDoor
namespace Go.Proofs.YtgkhmmlemgikjaaGreatDoor
open Go Ai
section
variable {n r:Nat} {L:List Tk} {dv:AV} {s:St} {R:Rd}
end
end Go.Proofs.YtgkhmmlemgikjaaGreatDoor
namespace Go.Proofs.YtgkhmmlemgikjaaGreatDoor
open Go Ai
section
variable {n r:Nat} {L:List Tk} {dv:AV} {s:St} {R:Rd}
theorem itm_adv {all:Bool} (h:(itmF L all R).1.2=true):R.i+1≤(itmF L all R).2.i:=by
 rcases Step.item (L:=L) (all:=all) (R:=R) with ⟨h1,_⟩ | h1
 ·rw [h] at h1;cases h1
 ·have:=h1.i;simpa [Rd.adv] using this
end
end Go.Proofs.YtgkhmmlemgikjaaGreatDoor
namespace Go.Proofs.YtgkhmmlemgikjaaGreatDoor
open Go Ai
section
variable {n r:Nat} {L:List Tk} {dv:AV} {s:St} {R:Rd}
theorem stk_its {all:Bool}:∀(m:Nat) (l:List It) (R:Rd),Stk R (itsF L all m l R).2:=fun m l R hc=>by simp [itsF_end hc]
end
end Go.Proofs.YtgkhmmlemgikjaaGreatDoor
namespace Go.Proofs.YtgkhmmlemgikjaaGreatDoor
open Go Ai
section
variable {n r:Nat} {L:List Tk} {dv:AV} {s:St} {R:Rd}
end
end Go.Proofs.YtgkhmmlemgikjaaGreatDoor
namespace Go.Proofs.YtgkhmmlemgikjaaGreatDoor
open Go Ai
end Go.Proofs.YtgkhmmlemgikjaaGreatDoor
namespace Go.Proofs.YtgkhmmlemgikjaaGreatDoor
open Go Ai
end Go.Proofs.YtgkhmmlemgikjaaGreatDoor
