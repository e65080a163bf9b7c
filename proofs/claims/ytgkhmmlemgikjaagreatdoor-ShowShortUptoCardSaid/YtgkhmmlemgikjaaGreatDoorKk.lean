/- Part Kk. No condition. -/
import Derived.Test.YtgkhmmlemgikjaaGreatDoorKj
import Derived.Test.YtgkhmmlemgikjaaGreatDoorKi
import Derived.Test.YtgkhmmlemgikjaaGreatDoorKh
set_option linter.unusedVariables false
set_option linter.unusedSimpArgs false
namespace Go.Proofs.YtgkhmmlemgikjaaGreatDoor
open Go Ai
end Go.Proofs.YtgkhmmlemgikjaaGreatDoor
namespace Go.Proofs.YtgkhmmlemgikjaaGreatDoor
open Go Ai
section
variable {n r:Nat} {L:List Tk} {dv:AV} {s:St} {R:Rd}
end
end Go.Proofs.YtgkhmmlemgikjaaGreatDoor
namespace Go.Proofs.YtgkhmmlemgikjaaGreatDoor
open Go Ai
end Go.Proofs.YtgkhmmlemgikjaaGreatDoor
namespace Go.Proofs.YtgkhmmlemgikjaaGreatDoor
open Go Ai
theorem noPg_may:may4 noPg=true:=by kernel_rfl
theorem parse_may (s:Sx) (ex:Bool):may4 (parseF s ex).1=true:=by
 by_cases h:(parseF s ex).2.2.1=0
 ·have:=((parse_ok s ex).2 h).1
  unfold may7 at this
  exact (Bool.and_eq_true_iff.1 this).2
 ·unfold parseF at h ⊢
  split
  ·exact noPg_may
  rename_i hs
  rw [if_neg hs] at h
  cases hl:Lx.lexK s 0 with
  | error p=>exact noPg_may
  | ok ts =>
   simp only [hl] at h ⊢
   split
   ·rename_i hq;rw [if_pos hq] at h;exact absurd rfl h
   ·exact noPg_may
end Go.Proofs.YtgkhmmlemgikjaaGreatDoor
