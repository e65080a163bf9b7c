/- Part Ks. No condition. -/
import Derived.Test.YtgkhmmlemgikjaaGreatDoorKr
set_option linter.unusedVariables false
set_option linter.unusedSimpArgs false
namespace Go.Proofs.YtgkhmmlemgikjaaGreatDoor
open Go Ai
section
variable {p:Pg} {E:Int→Int→Sx} {st:St}
end
end Go.Proofs.YtgkhmmlemgikjaaGreatDoor
namespace Go.Proofs.YtgkhmmlemgikjaaGreatDoor
open Go Ai
section
variable {p:Pg} {E:Int→Sx} {st:St}
end
end Go.Proofs.YtgkhmmlemgikjaaGreatDoor
namespace Go.Proofs.YtgkhmmlemgikjaaGreatDoor
open Go Ai
end Go.Proofs.YtgkhmmlemgikjaaGreatDoor
