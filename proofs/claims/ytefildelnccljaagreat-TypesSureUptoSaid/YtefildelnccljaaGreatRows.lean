/-
  No cell of these rows narrows 'for every input' (looked for: loops, veiled, ifaces, maps, wideKeys, modest, calm, conditions, laid).
  DERIVED. THE GIVEN ROWS OF THIS SEAT. 11 by the template 'for every input the law returns true; each argument reads behind the call as it read before'; 0 by the template 'total and deterministic' (their statements: YtefildelnccljaaGreatTotals.lean).
  GIVEN WITH THE SEED: the statements are not yours to turn. If you find one false, say at which input.
  Laid BY PROGRAM, IN A SANDBOX (cutbox-rows.mjs): the forced cells as the released guide's own fill.sh prints them over the translation 256cc6a244f2ddd0… (all of the seat's roots in one cut). By AI agents, Wed Nov 11 2026. No macro, syntax, notation, axiom, sorry.
-/
import Derived.Test.YtefildelnccljaaGreatChecked
import GoSem.Claim
import GoSem.ClaimJoined
import GoSem.ClaimMapViews
import Derived.JoinedTies
import Derived.KernelRfl
namespace Go.Proofs.YtefildelnccljaaGreat
/- THE CELL 'sum', in the pinned program and in every row, IS THE sha256 OF THE DUMP (.gsa) THAT YtefildelnccljaaGreatProg.lean LOADS. Nothing in Lean hashes anything: it is a label: what it is worth is what the hold of that sum in a sandbox is worth. -/
noncomputable def Tryz.pinned : Pinned := { name := "ytefildelnccljaagreat", sum := "256cc6a244f2ddd0106b154e30db4509ea03f2737268d9f7fc66595bb54c4f50", checked := Tryz.checked }
namespace Rows
def none {H : Type} : Left H := { results := [], args := [] }

/-- 'astrolabelaw07.NamesOrder': WHATEVER THE INPUT: true; the input reads as it did. -/
def namesOrderSpec : ChangeSpec := { name := "namesOrder", fn := fun _ => fun
  | [d] => { results := [.lit (.bool true)], args := [d] }
  | _ => none }
def namesOrderRow : OpenClaim := { program := "ytefildelnccljaagreat", sum := "256cc6a244f2ddd0106b154e30db4509ea03f2737268d9f7fc66595bb54c4f50", func := "astrolabe/astrolabelaw07.NamesOrder", spec := "namesOrder", unfollowed := true, recurses := true, apart := false }
def NamesOrderSaid : Prop := namesOrderRow.holds Tryz.pinned (OpenSpec.ofChange namesOrderSpec)

/-- ITS FALSE NEIGHBOUR: 'it returns false'. Refute it at one input. -/
def namesOrderWrong : ChangeSpec := { name := "namesOrder", fn := fun _ => fun
  | [d] => { results := [.lit (.bool false)], args := [d] }
  | _ => none }
def NamesOrderWrongFalsely : Prop := namesOrderRow.holds Tryz.pinned (OpenSpec.ofChange namesOrderWrong)

/-- 'astrolabelaw07.NamesOrdered': WHATEVER THE INPUT: true; the input reads as it did. -/
def namesOrderedSpec : ChangeSpec := { name := "namesOrdered", fn := fun _ => fun
  | [d] => { results := [.lit (.bool true)], args := [d] }
  | _ => none }
def namesOrderedRow : OpenClaim := { program := "ytefildelnccljaagreat", sum := "256cc6a244f2ddd0106b154e30db4509ea03f2737268d9f7fc66595bb54c4f50", func := "astrolabe/astrolabelaw07.NamesOrdered", spec := "namesOrdered", unfollowed := true, recurses := true, apart := false }
def NamesOrderedSaid : Prop := namesOrderedRow.holds Tryz.pinned (OpenSpec.ofChange namesOrderedSpec)

/-- ITS FALSE NEIGHBOUR: 'it returns false'. Refute it at one input. -/
def namesOrderedWrong : ChangeSpec := { name := "namesOrdered", fn := fun _ => fun
  | [d] => { results := [.lit (.bool false)], args := [d] }
  | _ => none }
def NamesOrderedWrongFalsely : Prop := namesOrderedRow.holds Tryz.pinned (OpenSpec.ofChange namesOrderedWrong)

/-- 'astrolabelaw07.NamesFaults': WHATEVER THE INPUT: true; the input reads as it did. -/
def namesFaultsSpec : ChangeSpec := { name := "namesFaults", fn := fun _ => fun
  | [d] => { results := [.lit (.bool true)], args := [d] }
  | _ => none }
def namesFaultsRow : OpenClaim := { program := "ytefildelnccljaagreat", sum := "256cc6a244f2ddd0106b154e30db4509ea03f2737268d9f7fc66595bb54c4f50", func := "astrolabe/astrolabelaw07.NamesFaults", spec := "namesFaults", unfollowed := true, recurses := true, apart := false }
def NamesFaultsSaid : Prop := namesFaultsRow.holds Tryz.pinned (OpenSpec.ofChange namesFaultsSpec)

/-- ITS FALSE NEIGHBOUR: 'it returns false'. Refute it at one input. -/
def namesFaultsWrong : ChangeSpec := { name := "namesFaults", fn := fun _ => fun
  | [d] => { results := [.lit (.bool false)], args := [d] }
  | _ => none }
def NamesFaultsWrongFalsely : Prop := namesFaultsRow.holds Tryz.pinned (OpenSpec.ofChange namesFaultsWrong)

/-- 'astrolabelaw07.NamesTexts': WHATEVER THE INPUT: true; the input reads as it did. -/
def namesTextsSpec : ChangeSpec := { name := "namesTexts", fn := fun _ => fun
  | [d] => { results := [.lit (.bool true)], args := [d] }
  | _ => none }
def namesTextsRow : OpenClaim := { program := "ytefildelnccljaagreat", sum := "256cc6a244f2ddd0106b154e30db4509ea03f2737268d9f7fc66595bb54c4f50", func := "astrolabe/astrolabelaw07.NamesTexts", spec := "namesTexts", unfollowed := true, recurses := true, apart := false }
def NamesTextsSaid : Prop := namesTextsRow.holds Tryz.pinned (OpenSpec.ofChange namesTextsSpec)

/-- ITS FALSE NEIGHBOUR: 'it returns false'. Refute it at one input. -/
def namesTextsWrong : ChangeSpec := { name := "namesTexts", fn := fun _ => fun
  | [d] => { results := [.lit (.bool false)], args := [d] }
  | _ => none }
def NamesTextsWrongFalsely : Prop := namesTextsRow.holds Tryz.pinned (OpenSpec.ofChange namesTextsWrong)

/-- 'astrolabelaw07.NamesKnown': WHATEVER THE INPUT: true; the input reads as it did. -/
def namesKnownSpec : ChangeSpec := { name := "namesKnown", fn := fun _ => fun
  | [d1, d2] => { results := [.lit (.bool true)], args := [d1, d2] }
  | _ => none }
def namesKnownRow : OpenClaim := { program := "ytefildelnccljaagreat", sum := "256cc6a244f2ddd0106b154e30db4509ea03f2737268d9f7fc66595bb54c4f50", func := "astrolabe/astrolabelaw07.NamesKnown", spec := "namesKnown", unfollowed := true, recurses := true, apart := false }
def NamesKnownSaid : Prop := namesKnownRow.holds Tryz.pinned (OpenSpec.ofChange namesKnownSpec)

/-- ITS FALSE NEIGHBOUR: 'it returns false'. Refute it at one input. -/
def namesKnownWrong : ChangeSpec := { name := "namesKnown", fn := fun _ => fun
  | [d1, d2] => { results := [.lit (.bool false)], args := [d1, d2] }
  | _ => none }
def NamesKnownWrongFalsely : Prop := namesKnownRow.holds Tryz.pinned (OpenSpec.ofChange namesKnownWrong)

/-- 'astrolabelaw07.NamesVars': WHATEVER THE INPUT: true; the input reads as it did. -/
def namesVarsSpec : ChangeSpec := { name := "namesVars", fn := fun _ => fun
  | [d1, d2, d3] => { results := [.lit (.bool true)], args := [d1, d2, d3] }
  | _ => none }
def namesVarsRow : OpenClaim := { program := "ytefildelnccljaagreat", sum := "256cc6a244f2ddd0106b154e30db4509ea03f2737268d9f7fc66595bb54c4f50", func := "astrolabe/astrolabelaw07.NamesVars", spec := "namesVars", unfollowed := true, recurses := true, apart := false }
def NamesVarsSaid : Prop := namesVarsRow.holds Tryz.pinned (OpenSpec.ofChange namesVarsSpec)

/-- ITS FALSE NEIGHBOUR: 'it returns false'. Refute it at one input. -/
def namesVarsWrong : ChangeSpec := { name := "namesVars", fn := fun _ => fun
  | [d1, d2, d3] => { results := [.lit (.bool false)], args := [d1, d2, d3] }
  | _ => none }
def NamesVarsWrongFalsely : Prop := namesVarsRow.holds Tryz.pinned (OpenSpec.ofChange namesVarsWrong)

/-- 'astrolabelaw08.TypesTexts': WHATEVER THE INPUT: true; the input reads as it did. -/
def typesTextsSpec : ChangeSpec := { name := "typesTexts", fn := fun _ => fun
  | [d] => { results := [.lit (.bool true)], args := [d] }
  | _ => none }
def typesTextsRow : OpenClaim := { program := "ytefildelnccljaagreat", sum := "256cc6a244f2ddd0106b154e30db4509ea03f2737268d9f7fc66595bb54c4f50", func := "astrolabe/astrolabelaw08.TypesTexts", spec := "typesTexts", unfollowed := true, recurses := true, apart := false }
def TypesTextsSaid : Prop := typesTextsRow.holds Tryz.pinned (OpenSpec.ofChange typesTextsSpec)

/-- ITS FALSE NEIGHBOUR: 'it returns false'. Refute it at one input. -/
def typesTextsWrong : ChangeSpec := { name := "typesTexts", fn := fun _ => fun
  | [d] => { results := [.lit (.bool false)], args := [d] }
  | _ => none }
def TypesTextsWrongFalsely : Prop := typesTextsRow.holds Tryz.pinned (OpenSpec.ofChange typesTextsWrong)

/-- 'astrolabelaw08.TypesFaults': WHATEVER THE INPUT: true; the input reads as it did. -/
def typesFaultsSpec : ChangeSpec := { name := "typesFaults", fn := fun _ => fun
  | [d] => { results := [.lit (.bool true)], args := [d] }
  | _ => none }
def typesFaultsRow : OpenClaim := { program := "ytefildelnccljaagreat", sum := "256cc6a244f2ddd0106b154e30db4509ea03f2737268d9f7fc66595bb54c4f50", func := "astrolabe/astrolabelaw08.TypesFaults", spec := "typesFaults", unfollowed := true, recurses := true, apart := false }
def TypesFaultsSaid : Prop := typesFaultsRow.holds Tryz.pinned (OpenSpec.ofChange typesFaultsSpec)

/-- ITS FALSE NEIGHBOUR: 'it returns false'. Refute it at one input. -/
def typesFaultsWrong : ChangeSpec := { name := "typesFaults", fn := fun _ => fun
  | [d] => { results := [.lit (.bool false)], args := [d] }
  | _ => none }
def TypesFaultsWrongFalsely : Prop := typesFaultsRow.holds Tryz.pinned (OpenSpec.ofChange typesFaultsWrong)

/-- 'astrolabelaw08.TypesSure': WHATEVER THE INPUT: true; the input reads as it did. -/
def typesSureSpec : ChangeSpec := { name := "typesSure", fn := fun _ => fun
  | [d] => { results := [.lit (.bool true)], args := [d] }
  | _ => none }
def typesSureRow : OpenClaim := { program := "ytefildelnccljaagreat", sum := "256cc6a244f2ddd0106b154e30db4509ea03f2737268d9f7fc66595bb54c4f50", func := "astrolabe/astrolabelaw08.TypesSure", spec := "typesSure", unfollowed := true, recurses := true, apart := false }
def TypesSureSaid : Prop := typesSureRow.holds Tryz.pinned (OpenSpec.ofChange typesSureSpec)

/-- ITS FALSE NEIGHBOUR: 'it returns false'. Refute it at one input. -/
def typesSureWrong : ChangeSpec := { name := "typesSure", fn := fun _ => fun
  | [d] => { results := [.lit (.bool false)], args := [d] }
  | _ => none }
def TypesSureWrongFalsely : Prop := typesSureRow.holds Tryz.pinned (OpenSpec.ofChange typesSureWrong)

/-- 'astrolabelaw08.TypesOf': WHATEVER THE INPUT: true; the input reads as it did. -/
def typesOfSpec : ChangeSpec := { name := "typesOf", fn := fun _ => fun
  | [d1, d2, d3] => { results := [.lit (.bool true)], args := [d1, d2, d3] }
  | _ => none }
def typesOfRow : OpenClaim := { program := "ytefildelnccljaagreat", sum := "256cc6a244f2ddd0106b154e30db4509ea03f2737268d9f7fc66595bb54c4f50", func := "astrolabe/astrolabelaw08.TypesOf", spec := "typesOf", unfollowed := true, recurses := true, apart := false }
def TypesOfSaid : Prop := typesOfRow.holds Tryz.pinned (OpenSpec.ofChange typesOfSpec)

/-- ITS FALSE NEIGHBOUR: 'it returns false'. Refute it at one input. -/
def typesOfWrong : ChangeSpec := { name := "typesOf", fn := fun _ => fun
  | [d1, d2, d3] => { results := [.lit (.bool false)], args := [d1, d2, d3] }
  | _ => none }
def TypesOfWrongFalsely : Prop := typesOfRow.holds Tryz.pinned (OpenSpec.ofChange typesOfWrong)

/-- 'astrolabelaw08.TypesPlaces': WHATEVER THE INPUT: true; the input reads as it did. -/
def typesPlacesSpec : ChangeSpec := { name := "typesPlaces", fn := fun _ => fun
  | [d1, d2] => { results := [.lit (.bool true)], args := [d1, d2] }
  | _ => none }
def typesPlacesRow : OpenClaim := { program := "ytefildelnccljaagreat", sum := "256cc6a244f2ddd0106b154e30db4509ea03f2737268d9f7fc66595bb54c4f50", func := "astrolabe/astrolabelaw08.TypesPlaces", spec := "typesPlaces", unfollowed := true, recurses := true, apart := false }
def TypesPlacesSaid : Prop := typesPlacesRow.holds Tryz.pinned (OpenSpec.ofChange typesPlacesSpec)

/-- ITS FALSE NEIGHBOUR: 'it returns false'. Refute it at one input. -/
def typesPlacesWrong : ChangeSpec := { name := "typesPlaces", fn := fun _ => fun
  | [d1, d2] => { results := [.lit (.bool false)], args := [d1, d2] }
  | _ => none }
def TypesPlacesWrongFalsely : Prop := typesPlacesRow.holds Tryz.pinned (OpenSpec.ofChange typesPlacesWrong)

/- THE SECOND FORM. 'bulk': how many values and letters a reading holds, each counted each time it is reached (what is shared counts as often as it is met; a slice's spare places count too). A statement '..UptoSaid' is the law's where the arguments, and the package variables that the reading takes, are together of bulk at most 1048576: NARROWER than '..Said'. Prove '..Said' where nothing that the law and all that it calls make is longer than what came in: it says more and counts as full. Else prove '..UptoSaid'. A law counts once. -/
mutual
def uptoBulk {H : Type} : DataW H → Nat
  | .lit (.string bytes) => bytes.length + 1
  | .lit _ => 1
  | .nil => 1
  | .ptr d => uptoBulk d + 1
  | .slice elems spare => uptoBulkAll elems + uptoBulkAll spare + 1
  | .agg parts => uptoBulkAll parts + 1
  | .iface _ d => uptoBulk d + 1
  | .map entries => uptoBulkEntries entries + 1
  | .held _ => 1
def uptoBulkAll {H : Type} : List (DataW H) → Nat
  | [] => 0
  | d :: r => uptoBulk d + uptoBulkAll r
def uptoBulkEntries {H : Type} : List (Lit × DataW H) → Nat
  | [] => 0
  | x :: r => uptoBulkEntry x + uptoBulkEntries r
def uptoBulkEntry {H : Type} : Lit × DataW H → Nat
  | (.string bytes, d) => bytes.length + uptoBulk d + 1
  | (_, d) => uptoBulk d + 1
 end
def uptoSmall : (H : Type) → List (DataW H) → Bool := fun _ ds => decide (uptoBulkAll ds ≤ 1048576)
def OpenSpec.upto (s : _root_.Go.ChangeSpec) : _root_.Go.OpenSpec := { _root_.Go.OpenSpec.ofChange s with cond := some uptoSmall }

/-- 'astrolabelaw07.NamesOrder', WHERE WHAT IT READS IS OF BULK AT MOST 1048576: true; the input reads as it did. -/
def namesOrderUptoRow : OpenClaim := { program := "ytefildelnccljaagreat", sum := "256cc6a244f2ddd0106b154e30db4509ea03f2737268d9f7fc66595bb54c4f50", func := "astrolabe/astrolabelaw07.NamesOrder", spec := "namesOrder", unfollowed := true, recurses := true, apart := false, narrowed := true }
def NamesOrderUptoSaid : Prop := namesOrderUptoRow.holds Tryz.pinned (OpenSpec.upto namesOrderSpec)

/-- 'astrolabelaw07.NamesOrdered', WHERE WHAT IT READS IS OF BULK AT MOST 1048576: true; the input reads as it did. -/
def namesOrderedUptoRow : OpenClaim := { program := "ytefildelnccljaagreat", sum := "256cc6a244f2ddd0106b154e30db4509ea03f2737268d9f7fc66595bb54c4f50", func := "astrolabe/astrolabelaw07.NamesOrdered", spec := "namesOrdered", unfollowed := true, recurses := true, apart := false, narrowed := true }
def NamesOrderedUptoSaid : Prop := namesOrderedUptoRow.holds Tryz.pinned (OpenSpec.upto namesOrderedSpec)

/-- 'astrolabelaw07.NamesFaults', WHERE WHAT IT READS IS OF BULK AT MOST 1048576: true; the input reads as it did. -/
def namesFaultsUptoRow : OpenClaim := { program := "ytefildelnccljaagreat", sum := "256cc6a244f2ddd0106b154e30db4509ea03f2737268d9f7fc66595bb54c4f50", func := "astrolabe/astrolabelaw07.NamesFaults", spec := "namesFaults", unfollowed := true, recurses := true, apart := false, narrowed := true }
def NamesFaultsUptoSaid : Prop := namesFaultsUptoRow.holds Tryz.pinned (OpenSpec.upto namesFaultsSpec)

/-- 'astrolabelaw07.NamesTexts', WHERE WHAT IT READS IS OF BULK AT MOST 1048576: true; the input reads as it did. -/
def namesTextsUptoRow : OpenClaim := { program := "ytefildelnccljaagreat", sum := "256cc6a244f2ddd0106b154e30db4509ea03f2737268d9f7fc66595bb54c4f50", func := "astrolabe/astrolabelaw07.NamesTexts", spec := "namesTexts", unfollowed := true, recurses := true, apart := false, narrowed := true }
def NamesTextsUptoSaid : Prop := namesTextsUptoRow.holds Tryz.pinned (OpenSpec.upto namesTextsSpec)

/-- 'astrolabelaw07.NamesKnown', WHERE WHAT IT READS IS OF BULK AT MOST 1048576: true; the input reads as it did. -/
def namesKnownUptoRow : OpenClaim := { program := "ytefildelnccljaagreat", sum := "256cc6a244f2ddd0106b154e30db4509ea03f2737268d9f7fc66595bb54c4f50", func := "astrolabe/astrolabelaw07.NamesKnown", spec := "namesKnown", unfollowed := true, recurses := true, apart := false, narrowed := true }
def NamesKnownUptoSaid : Prop := namesKnownUptoRow.holds Tryz.pinned (OpenSpec.upto namesKnownSpec)

/-- 'astrolabelaw07.NamesVars', WHERE WHAT IT READS IS OF BULK AT MOST 1048576: true; the input reads as it did. -/
def namesVarsUptoRow : OpenClaim := { program := "ytefildelnccljaagreat", sum := "256cc6a244f2ddd0106b154e30db4509ea03f2737268d9f7fc66595bb54c4f50", func := "astrolabe/astrolabelaw07.NamesVars", spec := "namesVars", unfollowed := true, recurses := true, apart := false, narrowed := true }
def NamesVarsUptoSaid : Prop := namesVarsUptoRow.holds Tryz.pinned (OpenSpec.upto namesVarsSpec)

/-- 'astrolabelaw08.TypesTexts', WHERE WHAT IT READS IS OF BULK AT MOST 1048576: true; the input reads as it did. -/
def typesTextsUptoRow : OpenClaim := { program := "ytefildelnccljaagreat", sum := "256cc6a244f2ddd0106b154e30db4509ea03f2737268d9f7fc66595bb54c4f50", func := "astrolabe/astrolabelaw08.TypesTexts", spec := "typesTexts", unfollowed := true, recurses := true, apart := false, narrowed := true }
def TypesTextsUptoSaid : Prop := typesTextsUptoRow.holds Tryz.pinned (OpenSpec.upto typesTextsSpec)

/-- 'astrolabelaw08.TypesFaults', WHERE WHAT IT READS IS OF BULK AT MOST 1048576: true; the input reads as it did. -/
def typesFaultsUptoRow : OpenClaim := { program := "ytefildelnccljaagreat", sum := "256cc6a244f2ddd0106b154e30db4509ea03f2737268d9f7fc66595bb54c4f50", func := "astrolabe/astrolabelaw08.TypesFaults", spec := "typesFaults", unfollowed := true, recurses := true, apart := false, narrowed := true }
def TypesFaultsUptoSaid : Prop := typesFaultsUptoRow.holds Tryz.pinned (OpenSpec.upto typesFaultsSpec)

/-- 'astrolabelaw08.TypesSure', WHERE WHAT IT READS IS OF BULK AT MOST 1048576: true; the input reads as it did. -/
def typesSureUptoRow : OpenClaim := { program := "ytefildelnccljaagreat", sum := "256cc6a244f2ddd0106b154e30db4509ea03f2737268d9f7fc66595bb54c4f50", func := "astrolabe/astrolabelaw08.TypesSure", spec := "typesSure", unfollowed := true, recurses := true, apart := false, narrowed := true }
def TypesSureUptoSaid : Prop := typesSureUptoRow.holds Tryz.pinned (OpenSpec.upto typesSureSpec)

/-- 'astrolabelaw08.TypesOf', WHERE WHAT IT READS IS OF BULK AT MOST 1048576: true; the input reads as it did. -/
def typesOfUptoRow : OpenClaim := { program := "ytefildelnccljaagreat", sum := "256cc6a244f2ddd0106b154e30db4509ea03f2737268d9f7fc66595bb54c4f50", func := "astrolabe/astrolabelaw08.TypesOf", spec := "typesOf", unfollowed := true, recurses := true, apart := false, narrowed := true }
def TypesOfUptoSaid : Prop := typesOfUptoRow.holds Tryz.pinned (OpenSpec.upto typesOfSpec)

/-- 'astrolabelaw08.TypesPlaces', WHERE WHAT IT READS IS OF BULK AT MOST 1048576: true; the input reads as it did. -/
def typesPlacesUptoRow : OpenClaim := { program := "ytefildelnccljaagreat", sum := "256cc6a244f2ddd0106b154e30db4509ea03f2737268d9f7fc66595bb54c4f50", func := "astrolabe/astrolabelaw08.TypesPlaces", spec := "typesPlaces", unfollowed := true, recurses := true, apart := false, narrowed := true }
def TypesPlacesUptoSaid : Prop := typesPlacesUptoRow.holds Tryz.pinned (OpenSpec.upto typesPlacesSpec)

end Rows
end Go.Proofs.YtefildelnccljaaGreat
