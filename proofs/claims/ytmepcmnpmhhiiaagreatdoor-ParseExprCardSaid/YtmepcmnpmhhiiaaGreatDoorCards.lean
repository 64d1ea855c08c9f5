/-
  DERIVED. GIVEN WITH THE SEED: THE CARDS: each row of YtmepcmnpmhhiiaaGreatDoorRows.lean that lists a variable, with what it lists TIED to the program's text (the seventh form; the later family's looks); each row that meets fmt, with fmt's text TOLD by the authors' own Lean function (tested against real Go, not proved from fmt's source: count such statements apart). THE CARD IS WHAT COUNTS. Prove the row's statement (the work); the ties are given (YtmepcmnpmhhiiaaGreatDoorTie.lean); close each card by the builder's one call (the guide's Derived/Test/ToyasCard.lean, 'card_holds'). Laid BY PROGRAM, IN A SANDBOX (cutbox-door.mjs). By AI agents, Wed Nov 11 2026. No macro, syntax, notation, axiom, sorry.
-/
import Derived.Test.YtmepcmnpmhhiiaaGreatDoorRows
import GoSem.ClaimSeven
namespace Go.Proofs.YtmepcmnpmhhiiaaGreatDoor
namespace Rows

/-- THE TIED CARD OF 'cloisterlaw.ParseBrackets'. -/
def parseBracketsCard : Claim7 := { stood := { row := parseBracketsRow, standIns := [], harness := (true, "c39a16593a207f73ac221f59fc86441ebd8f1a49102559e861775f47fa12b00f"), looks := true }, kinds := [], alts := [], laidByText := true, laidKinds := [.data, .data, .data, .sentinel, .sentinel, .listed, .data], laidTests := true, laidLooks := .later }
def ParseBracketsCardSaid : Prop := Claim7.holds Tryz.pinned (.plain (OpenSpec.ofChange parseBracketsSpec)) parseBracketsCard

/-- THE TIED CARD OF 'cloisterlaw.TreeExpr'. -/
def treeExprCard : Claim7 := { stood := { row := treeExprRow, standIns := [], harness := (true, "c39a16593a207f73ac221f59fc86441ebd8f1a49102559e861775f47fa12b00f"), looks := true }, kinds := [], alts := [], laidByText := true, laidKinds := [.data, .data, .data, .data, .sentinel, .sentinel, .listed, .data, .pinned], laidTests := true, laidLooks := .later }
def TreeExprCardSaid : Prop := Claim7.holds Tryz.pinned (.plain (OpenSpec.ofChange treeExprSpec)) treeExprCard

/-- THE TIED CARD OF 'cloisterlaw.ParseExpr'. -/
def parseExprCard : Claim7 := { stood := { row := parseExprRow, standIns := [], harness := (true, "c39a16593a207f73ac221f59fc86441ebd8f1a49102559e861775f47fa12b00f"), looks := true }, kinds := [], alts := [], laidByText := true, laidKinds := [.data, .data, .data, .data, .sentinel, .sentinel, .listed, .data, .pinned], laidTests := true, laidLooks := .later }
def ParseExprCardSaid : Prop := Claim7.holds Tryz.pinned (.plain (OpenSpec.ofChange parseExprSpec)) parseExprCard

/-- THE TIED CARD OF 'cloisterlaw.ParseBack'. -/
def parseBackCard : Claim7 := { stood := { row := parseBackRow, standIns := [], harness := (true, "c39a16593a207f73ac221f59fc86441ebd8f1a49102559e861775f47fa12b00f"), looks := true }, kinds := [], alts := [], laidByText := true, laidKinds := [.data, .data, .data, .sentinel, .sentinel, .listed, .data], laidTests := true, laidLooks := .later }
def ParseBackCardSaid : Prop := Claim7.holds Tryz.pinned (.plain (OpenSpec.ofChange parseBackSpec)) parseBackCard

/-- THE TIED CARD OF 'cloisterlaw.ParseProgram'. -/
def parseProgramCard : Claim7 := { stood := { row := parseProgramRow, standIns := [], harness := (true, "c39a16593a207f73ac221f59fc86441ebd8f1a49102559e861775f47fa12b00f"), looks := true }, kinds := [], alts := [], laidByText := true, laidKinds := [.data, .data, .data, .data, .sentinel, .sentinel, .listed, .data, .pinned], laidTests := true, laidLooks := .later }
def ParseProgramCardSaid : Prop := Claim7.holds Tryz.pinned (.plain (OpenSpec.ofChange parseProgramSpec)) parseProgramCard

/-- THE TIED CARD OF 'cloisterlaw.TreeProgram'. -/
def treeProgramCard : Claim7 := { stood := { row := treeProgramRow, standIns := [], harness := (true, "c39a16593a207f73ac221f59fc86441ebd8f1a49102559e861775f47fa12b00f"), looks := true }, kinds := [], alts := [], laidByText := true, laidKinds := [.data, .data, .data, .data, .sentinel, .sentinel, .listed, .data, .pinned], laidTests := true, laidLooks := .later }
def TreeProgramCardSaid : Prop := Claim7.holds Tryz.pinned (.plain (OpenSpec.ofChange treeProgramSpec)) treeProgramCard

/-- THE SECOND FORM's CARD OF 'cloisterlaw.ParseBrackets'. -/
def parseBracketsUptoCard : Claim7 := { stood := { row := parseBracketsUptoRow, standIns := [], harness := (true, "c39a16593a207f73ac221f59fc86441ebd8f1a49102559e861775f47fa12b00f"), looks := true }, kinds := [], alts := [], laidByText := true, laidKinds := [.data, .data, .data, .sentinel, .sentinel, .listed, .data], laidTests := true, laidLooks := .later }
def ParseBracketsUptoCardSaid : Prop := Claim7.holds Tryz.pinned (.plain (OpenSpec.upto parseBracketsSpec)) parseBracketsUptoCard

/-- THE SECOND FORM's CARD OF 'cloisterlaw.TreeExpr'. -/
def treeExprUptoCard : Claim7 := { stood := { row := treeExprUptoRow, standIns := [], harness := (true, "c39a16593a207f73ac221f59fc86441ebd8f1a49102559e861775f47fa12b00f"), looks := true }, kinds := [], alts := [], laidByText := true, laidKinds := [.data, .data, .data, .data, .sentinel, .sentinel, .listed, .data, .pinned], laidTests := true, laidLooks := .later }
def TreeExprUptoCardSaid : Prop := Claim7.holds Tryz.pinned (.plain (OpenSpec.upto treeExprSpec)) treeExprUptoCard

/-- THE SECOND FORM's CARD OF 'cloisterlaw.ParseExpr'. -/
def parseExprUptoCard : Claim7 := { stood := { row := parseExprUptoRow, standIns := [], harness := (true, "c39a16593a207f73ac221f59fc86441ebd8f1a49102559e861775f47fa12b00f"), looks := true }, kinds := [], alts := [], laidByText := true, laidKinds := [.data, .data, .data, .data, .sentinel, .sentinel, .listed, .data, .pinned], laidTests := true, laidLooks := .later }
def ParseExprUptoCardSaid : Prop := Claim7.holds Tryz.pinned (.plain (OpenSpec.upto parseExprSpec)) parseExprUptoCard

/-- THE SECOND FORM's CARD OF 'cloisterlaw.ParseBack'. -/
def parseBackUptoCard : Claim7 := { stood := { row := parseBackUptoRow, standIns := [], harness := (true, "c39a16593a207f73ac221f59fc86441ebd8f1a49102559e861775f47fa12b00f"), looks := true }, kinds := [], alts := [], laidByText := true, laidKinds := [.data, .data, .data, .sentinel, .sentinel, .listed, .data], laidTests := true, laidLooks := .later }
def ParseBackUptoCardSaid : Prop := Claim7.holds Tryz.pinned (.plain (OpenSpec.upto parseBackSpec)) parseBackUptoCard

/-- THE SECOND FORM's CARD OF 'cloisterlaw.ParseProgram'. -/
def parseProgramUptoCard : Claim7 := { stood := { row := parseProgramUptoRow, standIns := [], harness := (true, "c39a16593a207f73ac221f59fc86441ebd8f1a49102559e861775f47fa12b00f"), looks := true }, kinds := [], alts := [], laidByText := true, laidKinds := [.data, .data, .data, .data, .sentinel, .sentinel, .listed, .data, .pinned], laidTests := true, laidLooks := .later }
def ParseProgramUptoCardSaid : Prop := Claim7.holds Tryz.pinned (.plain (OpenSpec.upto parseProgramSpec)) parseProgramUptoCard

/-- THE SECOND FORM's CARD OF 'cloisterlaw.TreeProgram'. -/
def treeProgramUptoCard : Claim7 := { stood := { row := treeProgramUptoRow, standIns := [], harness := (true, "c39a16593a207f73ac221f59fc86441ebd8f1a49102559e861775f47fa12b00f"), looks := true }, kinds := [], alts := [], laidByText := true, laidKinds := [.data, .data, .data, .data, .sentinel, .sentinel, .listed, .data, .pinned], laidTests := true, laidLooks := .later }
def TreeProgramUptoCardSaid : Prop := Claim7.holds Tryz.pinned (.plain (OpenSpec.upto treeProgramSpec)) treeProgramUptoCard
end Rows
end Go.Proofs.YtmepcmnpmhhiiaaGreatDoor
