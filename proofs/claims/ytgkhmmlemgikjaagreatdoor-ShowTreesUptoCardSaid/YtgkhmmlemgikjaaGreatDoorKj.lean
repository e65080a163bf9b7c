/- Part Kj. No condition. -/
import Derived.Test.YtgkhmmlemgikjaaGreatDoorKg
import Derived.Test.YtgkhmmlemgikjaaGreatDoorEh
set_option linter.unusedVariables false
set_option linter.unusedSimpArgs false
namespace Go.Proofs.YtgkhmmlemgikjaaGreatDoor
open Go Ai
section
variable {n r:Nat} {L:List Tk} {dv:AV} {dp:Nat} {s:St} {R:Rd}
end
section
variable {n r:Nat} {L:List Tk} {dv:AV} {dp:Nat} {s:St} {R:Rd}
end
section
variable {n r:Nat} {L:List Tk} {dv:AV} {dp:Nat} {s:St} {R:Rd}
end
end Go.Proofs.YtgkhmmlemgikjaaGreatDoor
namespace Go.Proofs.YtgkhmmlemgikjaaGreatDoor
open Go Ai
section
variable {n r:Nat} {L:List Tk} {dv:AV} {dp:Nat} {s:St} {R:Rd}
end
end Go.Proofs.YtgkhmmlemgikjaaGreatDoor
namespace Go.Proofs.YtgkhmmlemgikjaaGreatDoor
open Go Ai
section
variable {n r:Nat} {L:List Tk} {dv:AV} {dp:Nat} {s:St} {R:Rd}
end
end Go.Proofs.YtgkhmmlemgikjaaGreatDoor
namespace Go.Proofs.YtgkhmmlemgikjaaGreatDoor
open Go Ai
section
variable {n r:Nat} {L:List Tk} {dv:AV} {dp:Nat} {s:St} {R:Rd}
end
end Go.Proofs.YtgkhmmlemgikjaaGreatDoor
namespace Go.Proofs.YtgkhmmlemgikjaaGreatDoor
open Go Ai
section
variable {n r:Nat} {L:List Tk} {dv:AV} {dp:Nat} {s:St} {R:Rd}
end
end Go.Proofs.YtgkhmmlemgikjaaGreatDoor
namespace Go.Proofs.YtgkhmmlemgikjaaGreatDoor
open Go Ai
section
variable {n r:Nat} {L:List Tk} {dv:AV} {dp:Nat} {s:St} {R:Rd}
end
end Go.Proofs.YtgkhmmlemgikjaaGreatDoor
namespace Go.Proofs.YtgkhmmlemgikjaaGreatDoor
open Go Ai
section
variable {n r:Nat} {L:List Tk} {dv:AV} {dp:Nat} {s:St} {R:Rd}
end
end Go.Proofs.YtgkhmmlemgikjaaGreatDoor
namespace Go.Proofs.YtgkhmmlemgikjaaGreatDoor
open Go Ai
section
variable {n r:Nat} {L:List Tk} {dv:AV} {dp:Nat} {s:St} {R:Rd}
end
end Go.Proofs.YtgkhmmlemgikjaaGreatDoor
namespace Go.Proofs.YtgkhmmlemgikjaaGreatDoor
open Go Ai
section
variable {n r:Nat} {L:List Tk} {dv:AV} {dp:Nat} {s:St} {R:Rd}
end
end Go.Proofs.YtgkhmmlemgikjaaGreatDoor
