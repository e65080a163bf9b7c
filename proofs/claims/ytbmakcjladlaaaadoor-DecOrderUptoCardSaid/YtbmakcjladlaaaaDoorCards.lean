/-
  DERIVED. GIVEN WITH THE SEED: THE CARDS: each row of YtbmakcjladlaaaaDoorRows.lean that lists a variable, with what it lists TIED to the program's text (the seventh form; the later family's looks); each row that meets fmt, with fmt's text TOLD by the authors' own Lean function (tested against real Go, not proved from fmt's source: count such statements apart). THE CARD IS WHAT COUNTS. Prove the row's statement (the work); the ties are given (YtbmakcjladlaaaaDoorTie.lean); close each card by the builder's one call (the guide's Derived/Test/ToyasCard.lean, 'card_holds'). Laid BY PROGRAM, IN A SANDBOX (cutbox-door.mjs). By AI agents, Wed Nov 11 2026. No macro, syntax, notation, axiom, sorry.
-/
import Derived.Test.YtbmakcjladlaaaaDoorRows
import GoSem.ClaimSeven
namespace Go.Proofs.YtbmakcjladlaaaaDoor
namespace Rows

/-- THE TIED CARD OF 'astrolabelaw02.DecShort'. -/
def decShortCard : Claim7 := { stood := { row := decShortRow, standIns := [], harness := (true, "9658c3530bbfc4c5b8e8ea7e3002d010bfac8866801c8a6ca1395998022a44ac"), looks := true }, kinds := [], alts := [], laidByText := true, laidKinds := [.data, .data, .data, .data, .sentinel, .sentinel, .pinned], laidTests := true, laidLooks := .later }
def DecShortCardSaid : Prop := Claim7.holds Tryd.pinned (.plain (OpenSpec.ofChange decShortSpec)) decShortCard

/-- THE TIED CARD OF 'astrolabelaw02.DecCut'. -/
def decCutCard : Claim7 := { stood := { row := decCutRow, standIns := [], harness := (true, "9658c3530bbfc4c5b8e8ea7e3002d010bfac8866801c8a6ca1395998022a44ac"), looks := true }, kinds := [], alts := [], laidByText := true, laidKinds := [.data, .data, .data, .data, .sentinel, .sentinel, .pinned], laidTests := true, laidLooks := .later }
def DecCutCardSaid : Prop := Claim7.holds Tryd.pinned (.plain (OpenSpec.ofChange decCutSpec)) decCutCard

/-- THE TIED CARD OF 'astrolabelaw02.DecOrder'. -/
def decOrderCard : Claim7 := { stood := { row := decOrderRow, standIns := [], harness := (true, "9658c3530bbfc4c5b8e8ea7e3002d010bfac8866801c8a6ca1395998022a44ac"), looks := true }, kinds := [], alts := [], laidByText := true, laidKinds := [.data, .data, .data, .data, .sentinel, .sentinel, .pinned], laidTests := true, laidLooks := .later }
def DecOrderCardSaid : Prop := Claim7.holds Tryd.pinned (.plain (OpenSpec.ofChange decOrderSpec)) decOrderCard

/-- THE TIED CARD OF 'astrolabelaw02.DecSigns'. -/
def decSignsCard : Claim7 := { stood := { row := decSignsRow, standIns := [], harness := (true, "9658c3530bbfc4c5b8e8ea7e3002d010bfac8866801c8a6ca1395998022a44ac"), looks := true }, kinds := [], alts := [], laidByText := true, laidKinds := [.data, .data, .data, .data, .sentinel, .sentinel, .pinned], laidTests := true, laidLooks := .later }
def DecSignsCardSaid : Prop := Claim7.holds Tryd.pinned (.plain (OpenSpec.ofChange decSignsSpec)) decSignsCard

/-- THE TIED CARD OF 'astrolabelaw02.DecBack'. -/
def decBackCard : Claim7 := { stood := { row := decBackRow, standIns := [], harness := (true, "9658c3530bbfc4c5b8e8ea7e3002d010bfac8866801c8a6ca1395998022a44ac"), looks := true }, kinds := [], alts := [], laidByText := true, laidKinds := [.data, .data, .data, .data, .sentinel, .sentinel, .pinned], laidTests := true, laidLooks := .later }
def DecBackCardSaid : Prop := Claim7.holds Tryd.pinned (.plain (OpenSpec.ofChange decBackSpec)) decBackCard

/-- THE SECOND FORM's CARD OF 'astrolabelaw02.DecShort'. -/
def decShortUptoCard : Claim7 := { stood := { row := decShortUptoRow, standIns := [], harness := (true, "9658c3530bbfc4c5b8e8ea7e3002d010bfac8866801c8a6ca1395998022a44ac"), looks := true }, kinds := [], alts := [], laidByText := true, laidKinds := [.data, .data, .data, .data, .sentinel, .sentinel, .pinned], laidTests := true, laidLooks := .later }
def DecShortUptoCardSaid : Prop := Claim7.holds Tryd.pinned (.plain (OpenSpec.upto decShortSpec)) decShortUptoCard

/-- THE SECOND FORM's CARD OF 'astrolabelaw02.DecCut'. -/
def decCutUptoCard : Claim7 := { stood := { row := decCutUptoRow, standIns := [], harness := (true, "9658c3530bbfc4c5b8e8ea7e3002d010bfac8866801c8a6ca1395998022a44ac"), looks := true }, kinds := [], alts := [], laidByText := true, laidKinds := [.data, .data, .data, .data, .sentinel, .sentinel, .pinned], laidTests := true, laidLooks := .later }
def DecCutUptoCardSaid : Prop := Claim7.holds Tryd.pinned (.plain (OpenSpec.upto decCutSpec)) decCutUptoCard

/-- THE SECOND FORM's CARD OF 'astrolabelaw02.DecOrder'. -/
def decOrderUptoCard : Claim7 := { stood := { row := decOrderUptoRow, standIns := [], harness := (true, "9658c3530bbfc4c5b8e8ea7e3002d010bfac8866801c8a6ca1395998022a44ac"), looks := true }, kinds := [], alts := [], laidByText := true, laidKinds := [.data, .data, .data, .data, .sentinel, .sentinel, .pinned], laidTests := true, laidLooks := .later }
def DecOrderUptoCardSaid : Prop := Claim7.holds Tryd.pinned (.plain (OpenSpec.upto decOrderSpec)) decOrderUptoCard

/-- THE SECOND FORM's CARD OF 'astrolabelaw02.DecSigns'. -/
def decSignsUptoCard : Claim7 := { stood := { row := decSignsUptoRow, standIns := [], harness := (true, "9658c3530bbfc4c5b8e8ea7e3002d010bfac8866801c8a6ca1395998022a44ac"), looks := true }, kinds := [], alts := [], laidByText := true, laidKinds := [.data, .data, .data, .data, .sentinel, .sentinel, .pinned], laidTests := true, laidLooks := .later }
def DecSignsUptoCardSaid : Prop := Claim7.holds Tryd.pinned (.plain (OpenSpec.upto decSignsSpec)) decSignsUptoCard

/-- THE SECOND FORM's CARD OF 'astrolabelaw02.DecBack'. -/
def decBackUptoCard : Claim7 := { stood := { row := decBackUptoRow, standIns := [], harness := (true, "9658c3530bbfc4c5b8e8ea7e3002d010bfac8866801c8a6ca1395998022a44ac"), looks := true }, kinds := [], alts := [], laidByText := true, laidKinds := [.data, .data, .data, .data, .sentinel, .sentinel, .pinned], laidTests := true, laidLooks := .later }
def DecBackUptoCardSaid : Prop := Claim7.holds Tryd.pinned (.plain (OpenSpec.upto decBackSpec)) decBackUptoCard
end Rows
end Go.Proofs.YtbmakcjladlaaaaDoor
