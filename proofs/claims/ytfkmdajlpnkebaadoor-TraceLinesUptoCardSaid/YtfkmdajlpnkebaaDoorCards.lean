/-
  DERIVED. GIVEN WITH THE SEED: THE CARDS: each row of YtfkmdajlpnkebaaDoorRows.lean that lists a variable, with what it lists TIED to the program's text (the seventh form; the later family's looks); each row that meets fmt, with fmt's text TOLD by the authors' own Lean function (tested against real Go, not proved from fmt's source: count such statements apart). THE CARD IS WHAT COUNTS. Prove the row's statement (the work); the ties are given (YtfkmdajlpnkebaaDoorTie.lean); close each card by the builder's one call (the guide's Derived/Test/ToyasCard.lean, 'card_holds'). Laid BY PROGRAM, IN A SANDBOX (cutbox-door.mjs). By AI agents, Wed Nov 11 2026. No macro, syntax, notation, axiom, sorry.
-/
import Derived.Test.YtfkmdajlpnkebaaDoorRows
import GoSem.ClaimSeven
namespace Go.Proofs.YtfkmdajlpnkebaaDoor
namespace Rows

/-- THE TIED CARD OF 'astrolabelaw25.TraceLines'. -/
def traceLinesCard : Claim7 := { stood := { row := traceLinesRow, standIns := [], harness := (true, "2f8f10a64ca5fdff984508400bfc92c0162454f8e6cdfe7cc7dce3b0b118de35"), looks := false }, kinds := [], alts := [], laidByText := true, laidKinds := [.data, .data, .data, .data, .pinned], laidTests := true, laidLooks := .later }
def TraceLinesCardSaid : Prop := Claim7.holds Tryd.pinned (.plain (OpenSpec.ofChange traceLinesSpec)) traceLinesCard

/-- THE TIED CARD OF 'astrolabelaw25.TraceSteps'. -/
def traceStepsCard : Claim7 := { stood := { row := traceStepsRow, standIns := [], harness := (true, "2f8f10a64ca5fdff984508400bfc92c0162454f8e6cdfe7cc7dce3b0b118de35"), looks := false }, kinds := [], alts := [], laidByText := true, laidKinds := [.data, .data, .data, .data, .pinned], laidTests := true, laidLooks := .later }
def TraceStepsCardSaid : Prop := Claim7.holds Tryd.pinned (.plain (OpenSpec.ofChange traceStepsSpec)) traceStepsCard

/-- THE TIED CARD OF 'astrolabelaw25.TraceAsks'. -/
def traceAsksCard : Claim7 := { stood := { row := traceAsksRow, standIns := [], harness := (true, "2f8f10a64ca5fdff984508400bfc92c0162454f8e6cdfe7cc7dce3b0b118de35"), looks := false }, kinds := [], alts := [], laidByText := true, laidKinds := [.data, .data, .data, .data, .pinned], laidTests := true, laidLooks := .later }
def TraceAsksCardSaid : Prop := Claim7.holds Tryd.pinned (.plain (OpenSpec.ofChange traceAsksSpec)) traceAsksCard

/-- THE TIED CARD OF 'astrolabelaw25.TraceBetween'. -/
def traceBetweenCard : Claim7 := { stood := { row := traceBetweenRow, standIns := [], harness := (true, "2f8f10a64ca5fdff984508400bfc92c0162454f8e6cdfe7cc7dce3b0b118de35"), looks := false }, kinds := [], alts := [], laidByText := true, laidKinds := [.data, .data, .data, .data, .pinned], laidTests := true, laidLooks := .later }
def TraceBetweenCardSaid : Prop := Claim7.holds Tryd.pinned (.plain (OpenSpec.ofChange traceBetweenSpec)) traceBetweenCard

/-- THE SECOND FORM's CARD OF 'astrolabelaw25.TraceLines'. -/
def traceLinesUptoCard : Claim7 := { stood := { row := traceLinesUptoRow, standIns := [], harness := (true, "2f8f10a64ca5fdff984508400bfc92c0162454f8e6cdfe7cc7dce3b0b118de35"), looks := false }, kinds := [], alts := [], laidByText := true, laidKinds := [.data, .data, .data, .data, .pinned], laidTests := true, laidLooks := .later }
def TraceLinesUptoCardSaid : Prop := Claim7.holds Tryd.pinned (.plain (OpenSpec.upto traceLinesSpec)) traceLinesUptoCard

/-- THE SECOND FORM's CARD OF 'astrolabelaw25.TraceSteps'. -/
def traceStepsUptoCard : Claim7 := { stood := { row := traceStepsUptoRow, standIns := [], harness := (true, "2f8f10a64ca5fdff984508400bfc92c0162454f8e6cdfe7cc7dce3b0b118de35"), looks := false }, kinds := [], alts := [], laidByText := true, laidKinds := [.data, .data, .data, .data, .pinned], laidTests := true, laidLooks := .later }
def TraceStepsUptoCardSaid : Prop := Claim7.holds Tryd.pinned (.plain (OpenSpec.upto traceStepsSpec)) traceStepsUptoCard

/-- THE SECOND FORM's CARD OF 'astrolabelaw25.TraceAsks'. -/
def traceAsksUptoCard : Claim7 := { stood := { row := traceAsksUptoRow, standIns := [], harness := (true, "2f8f10a64ca5fdff984508400bfc92c0162454f8e6cdfe7cc7dce3b0b118de35"), looks := false }, kinds := [], alts := [], laidByText := true, laidKinds := [.data, .data, .data, .data, .pinned], laidTests := true, laidLooks := .later }
def TraceAsksUptoCardSaid : Prop := Claim7.holds Tryd.pinned (.plain (OpenSpec.upto traceAsksSpec)) traceAsksUptoCard

/-- THE SECOND FORM's CARD OF 'astrolabelaw25.TraceBetween'. -/
def traceBetweenUptoCard : Claim7 := { stood := { row := traceBetweenUptoRow, standIns := [], harness := (true, "2f8f10a64ca5fdff984508400bfc92c0162454f8e6cdfe7cc7dce3b0b118de35"), looks := false }, kinds := [], alts := [], laidByText := true, laidKinds := [.data, .data, .data, .data, .pinned], laidTests := true, laidLooks := .later }
def TraceBetweenUptoCardSaid : Prop := Claim7.holds Tryd.pinned (.plain (OpenSpec.upto traceBetweenSpec)) traceBetweenUptoCard
end Rows
end Go.Proofs.YtfkmdajlpnkebaaDoor
