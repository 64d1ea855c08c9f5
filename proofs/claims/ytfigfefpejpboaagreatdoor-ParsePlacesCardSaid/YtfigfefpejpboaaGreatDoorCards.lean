/-
  DERIVED. GIVEN WITH THE SEED: THE CARDS: each row of YtfigfefpejpboaaGreatDoorRows.lean that lists a variable, with what it lists TIED to the program's text (the seventh form; the later family's looks); each row that meets fmt, with fmt's text TOLD by the authors' own Lean function (tested against real Go, not proved from fmt's source: count such statements apart). THE CARD IS WHAT COUNTS. Prove the row's statement (the work); the ties are given (YtfigfefpejpboaaGreatDoorTie.lean); close each card by the builder's one call (the guide's Derived/Test/ToyasCard.lean, 'card_holds'). Laid BY PROGRAM, IN A SANDBOX (cutbox-door.mjs). By AI agents, Wed Nov 11 2026. No macro, syntax, notation, axiom, sorry.
-/
import Derived.Test.YtfigfefpejpboaaGreatDoorRows
import GoSem.ClaimSeven
namespace Go.Proofs.YtfigfefpejpboaaGreatDoor
namespace Rows

/-- THE TIED CARD OF 'cloisterlaw.ParsePlaces'. -/
def parsePlacesCard : Claim7 := { stood := { row := parsePlacesRow, standIns := [], harness := (true, "6add1262fd3897208f1515478551e6fffdb4484ab66f5246acc79e2855ada8a2"), looks := true }, kinds := [], alts := [], laidByText := true, laidKinds := [.data, .data, .data, .sentinel, .sentinel, .listed, .data], laidTests := true, laidLooks := .later }
def ParsePlacesCardSaid : Prop := Claim7.holds Tryz.pinned (.plain (OpenSpec.ofChange parsePlacesSpec)) parsePlacesCard

/-- THE TIED CARD OF 'cloisterlaw.ParseBrackets'. -/
def parseBracketsCard : Claim7 := { stood := { row := parseBracketsRow, standIns := [], harness := (true, "6add1262fd3897208f1515478551e6fffdb4484ab66f5246acc79e2855ada8a2"), looks := true }, kinds := [], alts := [], laidByText := true, laidKinds := [.data, .data, .data, .sentinel, .sentinel, .listed, .data], laidTests := true, laidLooks := .later }
def ParseBracketsCardSaid : Prop := Claim7.holds Tryz.pinned (.plain (OpenSpec.ofChange parseBracketsSpec)) parseBracketsCard

/-- THE TIED CARD OF 'cloisterlaw.TreeExpr'. -/
def treeExprCard : Claim7 := { stood := { row := treeExprRow, standIns := [], harness := (true, "6add1262fd3897208f1515478551e6fffdb4484ab66f5246acc79e2855ada8a2"), looks := true }, kinds := [], alts := [], laidByText := true, laidKinds := [.data, .data, .data, .data, .sentinel, .sentinel, .listed, .data, .pinned], laidTests := true, laidLooks := .later }
def TreeExprCardSaid : Prop := Claim7.holds Tryz.pinned (.plain (OpenSpec.ofChange treeExprSpec)) treeExprCard

/-- THE TIED CARD OF 'cloisterlaw.ParseExpr'. -/
def parseExprCard : Claim7 := { stood := { row := parseExprRow, standIns := [], harness := (true, "6add1262fd3897208f1515478551e6fffdb4484ab66f5246acc79e2855ada8a2"), looks := true }, kinds := [], alts := [], laidByText := true, laidKinds := [.data, .data, .data, .data, .sentinel, .sentinel, .listed, .data, .pinned], laidTests := true, laidLooks := .later }
def ParseExprCardSaid : Prop := Claim7.holds Tryz.pinned (.plain (OpenSpec.ofChange parseExprSpec)) parseExprCard

/-- THE SECOND FORM's CARD OF 'cloisterlaw.ParsePlaces'. -/
def parsePlacesUptoCard : Claim7 := { stood := { row := parsePlacesUptoRow, standIns := [], harness := (true, "6add1262fd3897208f1515478551e6fffdb4484ab66f5246acc79e2855ada8a2"), looks := true }, kinds := [], alts := [], laidByText := true, laidKinds := [.data, .data, .data, .sentinel, .sentinel, .listed, .data], laidTests := true, laidLooks := .later }
def ParsePlacesUptoCardSaid : Prop := Claim7.holds Tryz.pinned (.plain (OpenSpec.upto parsePlacesSpec)) parsePlacesUptoCard

/-- THE SECOND FORM's CARD OF 'cloisterlaw.ParseBrackets'. -/
def parseBracketsUptoCard : Claim7 := { stood := { row := parseBracketsUptoRow, standIns := [], harness := (true, "6add1262fd3897208f1515478551e6fffdb4484ab66f5246acc79e2855ada8a2"), looks := true }, kinds := [], alts := [], laidByText := true, laidKinds := [.data, .data, .data, .sentinel, .sentinel, .listed, .data], laidTests := true, laidLooks := .later }
def ParseBracketsUptoCardSaid : Prop := Claim7.holds Tryz.pinned (.plain (OpenSpec.upto parseBracketsSpec)) parseBracketsUptoCard

/-- THE SECOND FORM's CARD OF 'cloisterlaw.TreeExpr'. -/
def treeExprUptoCard : Claim7 := { stood := { row := treeExprUptoRow, standIns := [], harness := (true, "6add1262fd3897208f1515478551e6fffdb4484ab66f5246acc79e2855ada8a2"), looks := true }, kinds := [], alts := [], laidByText := true, laidKinds := [.data, .data, .data, .data, .sentinel, .sentinel, .listed, .data, .pinned], laidTests := true, laidLooks := .later }
def TreeExprUptoCardSaid : Prop := Claim7.holds Tryz.pinned (.plain (OpenSpec.upto treeExprSpec)) treeExprUptoCard

/-- THE SECOND FORM's CARD OF 'cloisterlaw.ParseExpr'. -/
def parseExprUptoCard : Claim7 := { stood := { row := parseExprUptoRow, standIns := [], harness := (true, "6add1262fd3897208f1515478551e6fffdb4484ab66f5246acc79e2855ada8a2"), looks := true }, kinds := [], alts := [], laidByText := true, laidKinds := [.data, .data, .data, .data, .sentinel, .sentinel, .listed, .data, .pinned], laidTests := true, laidLooks := .later }
def ParseExprUptoCardSaid : Prop := Claim7.holds Tryz.pinned (.plain (OpenSpec.upto parseExprSpec)) parseExprUptoCard
end Rows
end Go.Proofs.YtfigfefpejpboaaGreatDoor
