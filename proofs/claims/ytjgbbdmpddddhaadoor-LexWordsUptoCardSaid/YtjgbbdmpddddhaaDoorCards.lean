/-
  DERIVED. GIVEN WITH THE SEED: THE CARDS: each row of YtjgbbdmpddddhaaDoorRows.lean that lists a variable, with what it lists TIED to the program's text (the seventh form; the later family's looks); each row that meets fmt, with fmt's text TOLD by the authors' own Lean function (tested against real Go, not proved from fmt's source: count such statements apart). THE CARD IS WHAT COUNTS. Prove the row's statement (the work); the ties are given (YtjgbbdmpddddhaaDoorTie.lean); close each card by the builder's one call (the guide's Derived/Test/ToyasCard.lean, 'card_holds'). Laid BY PROGRAM, IN A SANDBOX (cutbox-door.mjs). By AI agents, Wed Nov 11 2026. No macro, syntax, notation, axiom, sorry.
-/
import Derived.Test.YtjgbbdmpddddhaaDoorRows
import GoSem.ClaimSeven
namespace Go.Proofs.YtjgbbdmpddddhaaDoor
namespace Rows

/-- THE TIED CARD OF 'astrolabelaw03.LexTokens'. -/
def lexTokensCard : Claim7 := { stood := { row := lexTokensRow, standIns := [], harness := (true, "f861a1bc1289d7ea16008f8267e8a5e6386a6e1472a596077623784bb0e46175"), looks := true }, kinds := [], alts := [], laidByText := true, laidKinds := [.data, .data, .data, .data, .sentinel, .sentinel, .listed, .data, .pinned], laidTests := true, laidLooks := .later }
def LexTokensCardSaid : Prop := Claim7.holds Tryd.pinned (.plain (OpenSpec.ofChange lexTokensSpec)) lexTokensCard

/-- THE TIED CARD OF 'astrolabelaw03.LexTwo'. -/
def lexTwoCard : Claim7 := { stood := { row := lexTwoRow, standIns := [], harness := (true, "f861a1bc1289d7ea16008f8267e8a5e6386a6e1472a596077623784bb0e46175"), looks := true }, kinds := [], alts := [], laidByText := true, laidKinds := [.data, .data, .data, .data, .sentinel, .sentinel, .listed, .data, .pinned], laidTests := true, laidLooks := .later }
def LexTwoCardSaid : Prop := Claim7.holds Tryd.pinned (.plain (OpenSpec.ofChange lexTwoSpec)) lexTwoCard

/-- THE TIED CARD OF 'astrolabelaw03.LexCuts'. -/
def lexCutsCard : Claim7 := { stood := { row := lexCutsRow, standIns := [], harness := (true, "f861a1bc1289d7ea16008f8267e8a5e6386a6e1472a596077623784bb0e46175"), looks := true }, kinds := [], alts := [], laidByText := true, laidKinds := [.data, .data, .data, .data, .sentinel, .sentinel, .listed, .data, .pinned], laidTests := true, laidLooks := .later }
def LexCutsCardSaid : Prop := Claim7.holds Tryd.pinned (.plain (OpenSpec.ofChange lexCutsSpec)) lexCutsCard

/-- THE TIED CARD OF 'astrolabelaw03.LexWords'. -/
def lexWordsCard : Claim7 := { stood := { row := lexWordsRow, standIns := [], harness := (true, "f861a1bc1289d7ea16008f8267e8a5e6386a6e1472a596077623784bb0e46175"), looks := true }, kinds := [], alts := [], laidByText := true, laidKinds := [.data, .data, .data, .data, .sentinel, .sentinel, .listed, .data, .pinned], laidTests := true, laidLooks := .later }
def LexWordsCardSaid : Prop := Claim7.holds Tryd.pinned (.plain (OpenSpec.ofChange lexWordsSpec)) lexWordsCard

/-- THE TIED CARD OF 'astrolabelaw03.LexJoin'. -/
def lexJoinCard : Claim7 := { stood := { row := lexJoinRow, standIns := [], harness := (true, "f861a1bc1289d7ea16008f8267e8a5e6386a6e1472a596077623784bb0e46175"), looks := true }, kinds := [], alts := [], laidByText := true, laidKinds := [.data, .data, .data, .data, .sentinel, .sentinel, .listed, .data, .pinned], laidTests := true, laidLooks := .later }
def LexJoinCardSaid : Prop := Claim7.holds Tryd.pinned (.plain (OpenSpec.ofChange lexJoinSpec)) lexJoinCard

/-- THE SECOND FORM's CARD OF 'astrolabelaw03.LexTokens'. -/
def lexTokensUptoCard : Claim7 := { stood := { row := lexTokensUptoRow, standIns := [], harness := (true, "f861a1bc1289d7ea16008f8267e8a5e6386a6e1472a596077623784bb0e46175"), looks := true }, kinds := [], alts := [], laidByText := true, laidKinds := [.data, .data, .data, .data, .sentinel, .sentinel, .listed, .data, .pinned], laidTests := true, laidLooks := .later }
def LexTokensUptoCardSaid : Prop := Claim7.holds Tryd.pinned (.plain (OpenSpec.upto lexTokensSpec)) lexTokensUptoCard

/-- THE SECOND FORM's CARD OF 'astrolabelaw03.LexTwo'. -/
def lexTwoUptoCard : Claim7 := { stood := { row := lexTwoUptoRow, standIns := [], harness := (true, "f861a1bc1289d7ea16008f8267e8a5e6386a6e1472a596077623784bb0e46175"), looks := true }, kinds := [], alts := [], laidByText := true, laidKinds := [.data, .data, .data, .data, .sentinel, .sentinel, .listed, .data, .pinned], laidTests := true, laidLooks := .later }
def LexTwoUptoCardSaid : Prop := Claim7.holds Tryd.pinned (.plain (OpenSpec.upto lexTwoSpec)) lexTwoUptoCard

/-- THE SECOND FORM's CARD OF 'astrolabelaw03.LexCuts'. -/
def lexCutsUptoCard : Claim7 := { stood := { row := lexCutsUptoRow, standIns := [], harness := (true, "f861a1bc1289d7ea16008f8267e8a5e6386a6e1472a596077623784bb0e46175"), looks := true }, kinds := [], alts := [], laidByText := true, laidKinds := [.data, .data, .data, .data, .sentinel, .sentinel, .listed, .data, .pinned], laidTests := true, laidLooks := .later }
def LexCutsUptoCardSaid : Prop := Claim7.holds Tryd.pinned (.plain (OpenSpec.upto lexCutsSpec)) lexCutsUptoCard

/-- THE SECOND FORM's CARD OF 'astrolabelaw03.LexWords'. -/
def lexWordsUptoCard : Claim7 := { stood := { row := lexWordsUptoRow, standIns := [], harness := (true, "f861a1bc1289d7ea16008f8267e8a5e6386a6e1472a596077623784bb0e46175"), looks := true }, kinds := [], alts := [], laidByText := true, laidKinds := [.data, .data, .data, .data, .sentinel, .sentinel, .listed, .data, .pinned], laidTests := true, laidLooks := .later }
def LexWordsUptoCardSaid : Prop := Claim7.holds Tryd.pinned (.plain (OpenSpec.upto lexWordsSpec)) lexWordsUptoCard

/-- THE SECOND FORM's CARD OF 'astrolabelaw03.LexJoin'. -/
def lexJoinUptoCard : Claim7 := { stood := { row := lexJoinUptoRow, standIns := [], harness := (true, "f861a1bc1289d7ea16008f8267e8a5e6386a6e1472a596077623784bb0e46175"), looks := true }, kinds := [], alts := [], laidByText := true, laidKinds := [.data, .data, .data, .data, .sentinel, .sentinel, .listed, .data, .pinned], laidTests := true, laidLooks := .later }
def LexJoinUptoCardSaid : Prop := Claim7.holds Tryd.pinned (.plain (OpenSpec.upto lexJoinSpec)) lexJoinUptoCard
end Rows
end Go.Proofs.YtjgbbdmpddddhaaDoor
