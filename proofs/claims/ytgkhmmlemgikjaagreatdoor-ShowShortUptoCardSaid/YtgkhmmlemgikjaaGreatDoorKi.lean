/- Part Ki. No condition. -/
import Derived.Test.YtgkhmmlemgikjaaGreatDoorKf
set_option linter.unusedVariables false
set_option linter.unusedSimpArgs false
namespace Go.Proofs.YtgkhmmlemgikjaaGreatDoor.Lx
open Go Ai Go.Proofs.YtgkhmmlemgikjaaGreatDoor
attribute [simp] tmodN
def dv (d:Nat):AV:=.int .u8 (48+d:Nat)
attribute [simp] outAv_cells outAv_isCell
end Go.Proofs.YtgkhmmlemgikjaaGreatDoor.Lx
