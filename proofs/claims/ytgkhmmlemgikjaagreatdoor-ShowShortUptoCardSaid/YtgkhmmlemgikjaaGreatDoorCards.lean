/-
  DERIVED. GIVEN WITH THE SEED: THE CARDS: each row of YtgkhmmlemgikjaaGreatDoorRows.lean that lists a variable, with what it lists TIED to the program's text (the seventh form; the later family's looks); each row that meets fmt, with fmt's text TOLD by the authors' own Lean function (tested against real Go, not proved from fmt's source: count such statements apart). THE CARD IS WHAT COUNTS. Prove the row's statement (the work); the ties are given (YtgkhmmlemgikjaaGreatDoorTie.lean); close each card by the builder's one call (the guide's Derived/Test/ToyasCard.lean, 'card_holds'). Laid BY PROGRAM, IN A SANDBOX (cutbox-door.mjs). By AI agents, Wed Nov 11 2026. No macro, syntax, notation, axiom, sorry.
-/
import Derived.Test.YtgkhmmlemgikjaaGreatDoorRows
import GoSem.ClaimSeven
namespace Go.Proofs.YtgkhmmlemgikjaaGreatDoor
namespace Rows

/-- THE TIED CARD OF 'astrolabelaw06.ShowTrees'. -/
def showTreesCard : Claim7 := { stood := { row := showTreesRow, standIns := [], harness := (true, "3046051ccb6866477cdf3d489a16ada026c10213f9c46fc25bf3c2988974c356"), looks := true }, kinds := [], alts := [], laidByText := true, laidKinds := [.data, .data, .data, .data, .pinned], laidTests := true, laidLooks := .later }
def ShowTreesCardSaid : Prop := Claim7.holds Tryz.pinned (.plain (OpenSpec.ofChange showTreesSpec)) showTreesCard

/-- THE TIED CARD OF 'astrolabelaw06.ShowShort'. -/
def showShortCard : Claim7 := { stood := { row := showShortRow, standIns := [], harness := (true, "3046051ccb6866477cdf3d489a16ada026c10213f9c46fc25bf3c2988974c356"), looks := true }, kinds := [], alts := [], laidByText := true, laidKinds := [.data, .data, .data, .data, .pinned], laidTests := true, laidLooks := .later }
def ShowShortCardSaid : Prop := Claim7.holds Tryz.pinned (.plain (OpenSpec.ofChange showShortSpec)) showShortCard

/-- THE TIED CARD OF 'astrolabelaw05.ParseExprs'. -/
def parseExprsCard : Claim7 := { stood := { row := parseExprsRow, standIns := [], harness := (true, "3046051ccb6866477cdf3d489a16ada026c10213f9c46fc25bf3c2988974c356"), looks := true }, kinds := [], alts := [], laidByText := true, laidKinds := [.data, .data, .data, .data, .sentinel, .sentinel, .listed, .data, .pinned], laidTests := true, laidLooks := .later }
def ParseExprsCardSaid : Prop := Claim7.holds Tryz.pinned (.plain (OpenSpec.ofChange parseExprsSpec)) parseExprsCard

/-- THE TIED CARD OF 'astrolabelaw05.ParseDeep'. -/
def parseDeepCard : Claim7 := { stood := { row := parseDeepRow, standIns := [], harness := (true, "3046051ccb6866477cdf3d489a16ada026c10213f9c46fc25bf3c2988974c356"), looks := true }, kinds := [], alts := [], laidByText := true, laidKinds := [.data, .data, .data, .data, .sentinel, .sentinel, .listed, .data, .pinned], laidTests := true, laidLooks := .later }
def ParseDeepCardSaid : Prop := Claim7.holds Tryz.pinned (.plain (OpenSpec.ofChange parseDeepSpec)) parseDeepCard

/-- THE TIED CARD OF 'astrolabelaw05.ParseBrackets'. -/
def parseBracketsCard : Claim7 := { stood := { row := parseBracketsRow, standIns := [], harness := (true, "3046051ccb6866477cdf3d489a16ada026c10213f9c46fc25bf3c2988974c356"), looks := true }, kinds := [], alts := [], laidByText := true, laidKinds := [.data, .data, .data, .data, .sentinel, .sentinel, .listed, .data, .pinned], laidTests := true, laidLooks := .later }
def ParseBracketsCardSaid : Prop := Claim7.holds Tryz.pinned (.plain (OpenSpec.ofChange parseBracketsSpec)) parseBracketsCard

/-- THE TIED CARD OF 'astrolabelaw05.ParseTexts'. -/
def parseTextsCard : Claim7 := { stood := { row := parseTextsRow, standIns := [], harness := (true, "3046051ccb6866477cdf3d489a16ada026c10213f9c46fc25bf3c2988974c356"), looks := true }, kinds := [], alts := [], laidByText := true, laidKinds := [.data, .data, .data, .data, .sentinel, .sentinel, .listed, .data, .pinned], laidTests := true, laidLooks := .later }
def ParseTextsCardSaid : Prop := Claim7.holds Tryz.pinned (.plain (OpenSpec.ofChange parseTextsSpec)) parseTextsCard

/-- THE TIED CARD OF 'astrolabelaw05.ParseGaps'. -/
def parseGapsCard : Claim7 := { stood := { row := parseGapsRow, standIns := [], harness := (true, "3046051ccb6866477cdf3d489a16ada026c10213f9c46fc25bf3c2988974c356"), looks := true }, kinds := [], alts := [], laidByText := true, laidKinds := [.data, .data, .data, .data, .sentinel, .sentinel, .listed, .data, .pinned], laidTests := true, laidLooks := .later }
def ParseGapsCardSaid : Prop := Claim7.holds Tryz.pinned (.plain (OpenSpec.ofChange parseGapsSpec)) parseGapsCard

/-- THE TIED CARD OF 'astrolabelaw05.ParseSpoiled'. -/
def parseSpoiledCard : Claim7 := { stood := { row := parseSpoiledRow, standIns := [], harness := (true, "3046051ccb6866477cdf3d489a16ada026c10213f9c46fc25bf3c2988974c356"), looks := true }, kinds := [], alts := [], laidByText := true, laidKinds := [.data, .data, .data, .data, .sentinel, .sentinel, .listed, .data, .pinned], laidTests := true, laidLooks := .later }
def ParseSpoiledCardSaid : Prop := Claim7.holds Tryz.pinned (.plain (OpenSpec.ofChange parseSpoiledSpec)) parseSpoiledCard

/-- THE TIED CARD OF 'astrolabelaw06.ShowBack'. -/
def showBackCard : Claim7 := { stood := { row := showBackRow, standIns := [], harness := (true, "3046051ccb6866477cdf3d489a16ada026c10213f9c46fc25bf3c2988974c356"), looks := true }, kinds := [], alts := [], laidByText := true, laidKinds := [.data, .data, .data, .data, .sentinel, .sentinel, .listed, .data, .pinned], laidTests := true, laidLooks := .later }
def ShowBackCardSaid : Prop := Claim7.holds Tryz.pinned (.plain (OpenSpec.ofChange showBackSpec)) showBackCard

/-- THE TIED CARD OF 'astrolabelaw06.ShowForm'. -/
def showFormCard : Claim7 := { stood := { row := showFormRow, standIns := [], harness := (true, "3046051ccb6866477cdf3d489a16ada026c10213f9c46fc25bf3c2988974c356"), looks := true }, kinds := [], alts := [], laidByText := true, laidKinds := [.data, .data, .data, .data, .sentinel, .sentinel, .listed, .data, .pinned], laidTests := true, laidLooks := .later }
def ShowFormCardSaid : Prop := Claim7.holds Tryz.pinned (.plain (OpenSpec.ofChange showFormSpec)) showFormCard

/-- THE SECOND FORM's CARD OF 'astrolabelaw06.ShowTrees'. -/
def showTreesUptoCard : Claim7 := { stood := { row := showTreesUptoRow, standIns := [], harness := (true, "3046051ccb6866477cdf3d489a16ada026c10213f9c46fc25bf3c2988974c356"), looks := true }, kinds := [], alts := [], laidByText := true, laidKinds := [.data, .data, .data, .data, .pinned], laidTests := true, laidLooks := .later }
def ShowTreesUptoCardSaid : Prop := Claim7.holds Tryz.pinned (.plain (OpenSpec.upto showTreesSpec)) showTreesUptoCard

/-- THE SECOND FORM's CARD OF 'astrolabelaw06.ShowShort'. -/
def showShortUptoCard : Claim7 := { stood := { row := showShortUptoRow, standIns := [], harness := (true, "3046051ccb6866477cdf3d489a16ada026c10213f9c46fc25bf3c2988974c356"), looks := true }, kinds := [], alts := [], laidByText := true, laidKinds := [.data, .data, .data, .data, .pinned], laidTests := true, laidLooks := .later }
def ShowShortUptoCardSaid : Prop := Claim7.holds Tryz.pinned (.plain (OpenSpec.upto showShortSpec)) showShortUptoCard

/-- THE SECOND FORM's CARD OF 'astrolabelaw05.ParseExprs'. -/
def parseExprsUptoCard : Claim7 := { stood := { row := parseExprsUptoRow, standIns := [], harness := (true, "3046051ccb6866477cdf3d489a16ada026c10213f9c46fc25bf3c2988974c356"), looks := true }, kinds := [], alts := [], laidByText := true, laidKinds := [.data, .data, .data, .data, .sentinel, .sentinel, .listed, .data, .pinned], laidTests := true, laidLooks := .later }
def ParseExprsUptoCardSaid : Prop := Claim7.holds Tryz.pinned (.plain (OpenSpec.upto parseExprsSpec)) parseExprsUptoCard

/-- THE SECOND FORM's CARD OF 'astrolabelaw05.ParseDeep'. -/
def parseDeepUptoCard : Claim7 := { stood := { row := parseDeepUptoRow, standIns := [], harness := (true, "3046051ccb6866477cdf3d489a16ada026c10213f9c46fc25bf3c2988974c356"), looks := true }, kinds := [], alts := [], laidByText := true, laidKinds := [.data, .data, .data, .data, .sentinel, .sentinel, .listed, .data, .pinned], laidTests := true, laidLooks := .later }
def ParseDeepUptoCardSaid : Prop := Claim7.holds Tryz.pinned (.plain (OpenSpec.upto parseDeepSpec)) parseDeepUptoCard

/-- THE SECOND FORM's CARD OF 'astrolabelaw05.ParseBrackets'. -/
def parseBracketsUptoCard : Claim7 := { stood := { row := parseBracketsUptoRow, standIns := [], harness := (true, "3046051ccb6866477cdf3d489a16ada026c10213f9c46fc25bf3c2988974c356"), looks := true }, kinds := [], alts := [], laidByText := true, laidKinds := [.data, .data, .data, .data, .sentinel, .sentinel, .listed, .data, .pinned], laidTests := true, laidLooks := .later }
def ParseBracketsUptoCardSaid : Prop := Claim7.holds Tryz.pinned (.plain (OpenSpec.upto parseBracketsSpec)) parseBracketsUptoCard

/-- THE SECOND FORM's CARD OF 'astrolabelaw05.ParseTexts'. -/
def parseTextsUptoCard : Claim7 := { stood := { row := parseTextsUptoRow, standIns := [], harness := (true, "3046051ccb6866477cdf3d489a16ada026c10213f9c46fc25bf3c2988974c356"), looks := true }, kinds := [], alts := [], laidByText := true, laidKinds := [.data, .data, .data, .data, .sentinel, .sentinel, .listed, .data, .pinned], laidTests := true, laidLooks := .later }
def ParseTextsUptoCardSaid : Prop := Claim7.holds Tryz.pinned (.plain (OpenSpec.upto parseTextsSpec)) parseTextsUptoCard

/-- THE SECOND FORM's CARD OF 'astrolabelaw05.ParseGaps'. -/
def parseGapsUptoCard : Claim7 := { stood := { row := parseGapsUptoRow, standIns := [], harness := (true, "3046051ccb6866477cdf3d489a16ada026c10213f9c46fc25bf3c2988974c356"), looks := true }, kinds := [], alts := [], laidByText := true, laidKinds := [.data, .data, .data, .data, .sentinel, .sentinel, .listed, .data, .pinned], laidTests := true, laidLooks := .later }
def ParseGapsUptoCardSaid : Prop := Claim7.holds Tryz.pinned (.plain (OpenSpec.upto parseGapsSpec)) parseGapsUptoCard

/-- THE SECOND FORM's CARD OF 'astrolabelaw05.ParseSpoiled'. -/
def parseSpoiledUptoCard : Claim7 := { stood := { row := parseSpoiledUptoRow, standIns := [], harness := (true, "3046051ccb6866477cdf3d489a16ada026c10213f9c46fc25bf3c2988974c356"), looks := true }, kinds := [], alts := [], laidByText := true, laidKinds := [.data, .data, .data, .data, .sentinel, .sentinel, .listed, .data, .pinned], laidTests := true, laidLooks := .later }
def ParseSpoiledUptoCardSaid : Prop := Claim7.holds Tryz.pinned (.plain (OpenSpec.upto parseSpoiledSpec)) parseSpoiledUptoCard

/-- THE SECOND FORM's CARD OF 'astrolabelaw06.ShowBack'. -/
def showBackUptoCard : Claim7 := { stood := { row := showBackUptoRow, standIns := [], harness := (true, "3046051ccb6866477cdf3d489a16ada026c10213f9c46fc25bf3c2988974c356"), looks := true }, kinds := [], alts := [], laidByText := true, laidKinds := [.data, .data, .data, .data, .sentinel, .sentinel, .listed, .data, .pinned], laidTests := true, laidLooks := .later }
def ShowBackUptoCardSaid : Prop := Claim7.holds Tryz.pinned (.plain (OpenSpec.upto showBackSpec)) showBackUptoCard

/-- THE SECOND FORM's CARD OF 'astrolabelaw06.ShowForm'. -/
def showFormUptoCard : Claim7 := { stood := { row := showFormUptoRow, standIns := [], harness := (true, "3046051ccb6866477cdf3d489a16ada026c10213f9c46fc25bf3c2988974c356"), looks := true }, kinds := [], alts := [], laidByText := true, laidKinds := [.data, .data, .data, .data, .sentinel, .sentinel, .listed, .data, .pinned], laidTests := true, laidLooks := .later }
def ShowFormUptoCardSaid : Prop := Claim7.holds Tryz.pinned (.plain (OpenSpec.upto showFormSpec)) showFormUptoCard
end Rows
end Go.Proofs.YtgkhmmlemgikjaaGreatDoor
