/-
  DERIVED. GIVEN WITH THE SEED: THE CARDS: each row of YtminbehofnnhmaaGreatDoorRows.lean that lists a variable, with what it lists TIED to the program's text (the seventh form; the later family's looks); each row that meets fmt, with fmt's text TOLD by the authors' own Lean function (tested against real Go, not proved from fmt's source: count such statements apart). THE CARD IS WHAT COUNTS. Prove the row's statement (the work); the ties are given (YtminbehofnnhmaaGreatDoorTie.lean); close each card by the builder's one call (the guide's Derived/Test/ToyasCard.lean, 'card_holds'). Laid BY PROGRAM, IN A SANDBOX (cutbox-door.mjs). By AI agents, Wed Nov 11 2026. No macro, syntax, notation, axiom, sorry.
-/
import Derived.Test.YtminbehofnnhmaaGreatDoorRows
import GoSem.ClaimSeven
namespace Go.Proofs.YtminbehofnnhmaaGreatDoor
namespace Rows

/-- THE TIED CARD OF 'cloisterlaw.ParseBrackets'. -/
def parseBracketsCard : Claim7 := { stood := { row := parseBracketsRow, standIns := [], harness := (true, "25cde992b6eedbb55b5574d25d78981b124305091a089351e287cb613f46182e"), looks := true }, kinds := [], alts := [], laidByText := true, laidKinds := [.data, .data, .data, .sentinel, .sentinel, .listed, .data], laidTests := true, laidLooks := .later }
def ParseBracketsCardSaid : Prop := Claim7.holds Tryz.pinned (.plain (OpenSpec.ofChange parseBracketsSpec)) parseBracketsCard

/-- THE TIED CARD OF 'cloisterlaw.ScopeMore'. -/
def scopeMoreCard : Claim7 := { stood := { row := scopeMoreRow, standIns := [], harness := (true, "25cde992b6eedbb55b5574d25d78981b124305091a089351e287cb613f46182e"), looks := true }, kinds := [], alts := [], laidByText := true, laidKinds := [.data, .data, .data, .sentinel, .sentinel, .listed, .data], laidTests := true, laidLooks := .later }
def ScopeMoreCardSaid : Prop := Claim7.holds Tryz.pinned (.plain (OpenSpec.ofChange scopeMoreSpec)) scopeMoreCard

/-- THE TIED CARD OF 'cloisterlaw.ParseBack'. -/
def parseBackCard : Claim7 := { stood := { row := parseBackRow, standIns := [], harness := (true, "25cde992b6eedbb55b5574d25d78981b124305091a089351e287cb613f46182e"), looks := true }, kinds := [], alts := [], laidByText := true, laidKinds := [.data, .data, .data, .sentinel, .sentinel, .listed, .data], laidTests := true, laidLooks := .later }
def ParseBackCardSaid : Prop := Claim7.holds Tryz.pinned (.plain (OpenSpec.ofChange parseBackSpec)) parseBackCard

/-- THE TIED CARD OF 'cloisterlaw.FoldTwice'. -/
def foldTwiceCard : Claim7 := { stood := { row := foldTwiceRow, standIns := [], harness := (true, "25cde992b6eedbb55b5574d25d78981b124305091a089351e287cb613f46182e"), looks := true }, kinds := [], alts := [], laidByText := true, laidKinds := [.data, .data, .data, .sentinel, .sentinel, .listed, .data], laidTests := true, laidLooks := .later }
def FoldTwiceCardSaid : Prop := Claim7.holds Tryz.pinned (.plain (OpenSpec.ofChange foldTwiceSpec)) foldTwiceCard

/-- THE TIED CARD OF 'cloisterlaw.ScopePrinted'. -/
def scopePrintedCard : Claim7 := { stood := { row := scopePrintedRow, standIns := [], harness := (true, "25cde992b6eedbb55b5574d25d78981b124305091a089351e287cb613f46182e"), looks := true }, kinds := [], alts := [], laidByText := true, laidKinds := [.data, .data, .data, .sentinel, .sentinel, .listed, .data], laidTests := true, laidLooks := .later }
def ScopePrintedCardSaid : Prop := Claim7.holds Tryz.pinned (.plain (OpenSpec.ofChange scopePrintedSpec)) scopePrintedCard

/-- THE TIED CARD OF 'cloisterlaw.ParseProgram'. -/
def parseProgramCard : Claim7 := { stood := { row := parseProgramRow, standIns := [], harness := (true, "25cde992b6eedbb55b5574d25d78981b124305091a089351e287cb613f46182e"), looks := true }, kinds := [], alts := [], laidByText := true, laidKinds := [.data, .data, .data, .data, .sentinel, .sentinel, .listed, .data, .pinned], laidTests := true, laidLooks := .later }
def ParseProgramCardSaid : Prop := Claim7.holds Tryz.pinned (.plain (OpenSpec.ofChange parseProgramSpec)) parseProgramCard

/-- THE TIED CARD OF 'cloisterlaw.TreeProgram'. -/
def treeProgramCard : Claim7 := { stood := { row := treeProgramRow, standIns := [], harness := (true, "25cde992b6eedbb55b5574d25d78981b124305091a089351e287cb613f46182e"), looks := true }, kinds := [], alts := [], laidByText := true, laidKinds := [.data, .data, .data, .data, .sentinel, .sentinel, .listed, .data, .pinned], laidTests := true, laidLooks := .later }
def TreeProgramCardSaid : Prop := Claim7.holds Tryz.pinned (.plain (OpenSpec.ofChange treeProgramSpec)) treeProgramCard

/-- THE TIED CARD OF 'cloisterlaw.ScopeCheck'. -/
def scopeCheckCard : Claim7 := { stood := { row := scopeCheckRow, standIns := [], harness := (true, "25cde992b6eedbb55b5574d25d78981b124305091a089351e287cb613f46182e"), looks := true }, kinds := [], alts := [], laidByText := true, laidKinds := [.data, .data, .data, .data, .sentinel, .sentinel, .listed, .data, .pinned], laidTests := true, laidLooks := .later }
def ScopeCheckCardSaid : Prop := Claim7.holds Tryz.pinned (.plain (OpenSpec.ofChange scopeCheckSpec)) scopeCheckCard

/-- THE TIED CARD OF 'cloisterlaw.ScopeType'. -/
def scopeTypeCard : Claim7 := { stood := { row := scopeTypeRow, standIns := [], harness := (true, "25cde992b6eedbb55b5574d25d78981b124305091a089351e287cb613f46182e"), looks := true }, kinds := [], alts := [], laidByText := true, laidKinds := [.data, .data, .data, .data, .sentinel, .sentinel, .listed, .data, .pinned], laidTests := true, laidLooks := .later }
def ScopeTypeCardSaid : Prop := Claim7.holds Tryz.pinned (.plain (OpenSpec.ofChange scopeTypeSpec)) scopeTypeCard

/-- THE TIED CARD OF 'cloisterlaw.FoldProgram'. -/
def foldProgramCard : Claim7 := { stood := { row := foldProgramRow, standIns := [], harness := (true, "25cde992b6eedbb55b5574d25d78981b124305091a089351e287cb613f46182e"), looks := true }, kinds := [], alts := [], laidByText := true, laidKinds := [.data, .data, .data, .data, .sentinel, .sentinel, .listed, .data, .pinned], laidTests := true, laidLooks := .later }
def FoldProgramCardSaid : Prop := Claim7.holds Tryz.pinned (.plain (OpenSpec.ofChange foldProgramSpec)) foldProgramCard

/-- THE SECOND FORM's CARD OF 'cloisterlaw.ParseBrackets'. -/
def parseBracketsUptoCard : Claim7 := { stood := { row := parseBracketsUptoRow, standIns := [], harness := (true, "25cde992b6eedbb55b5574d25d78981b124305091a089351e287cb613f46182e"), looks := true }, kinds := [], alts := [], laidByText := true, laidKinds := [.data, .data, .data, .sentinel, .sentinel, .listed, .data], laidTests := true, laidLooks := .later }
def ParseBracketsUptoCardSaid : Prop := Claim7.holds Tryz.pinned (.plain (OpenSpec.upto parseBracketsSpec)) parseBracketsUptoCard

/-- THE SECOND FORM's CARD OF 'cloisterlaw.ScopeMore'. -/
def scopeMoreUptoCard : Claim7 := { stood := { row := scopeMoreUptoRow, standIns := [], harness := (true, "25cde992b6eedbb55b5574d25d78981b124305091a089351e287cb613f46182e"), looks := true }, kinds := [], alts := [], laidByText := true, laidKinds := [.data, .data, .data, .sentinel, .sentinel, .listed, .data], laidTests := true, laidLooks := .later }
def ScopeMoreUptoCardSaid : Prop := Claim7.holds Tryz.pinned (.plain (OpenSpec.upto scopeMoreSpec)) scopeMoreUptoCard

/-- THE SECOND FORM's CARD OF 'cloisterlaw.ParseBack'. -/
def parseBackUptoCard : Claim7 := { stood := { row := parseBackUptoRow, standIns := [], harness := (true, "25cde992b6eedbb55b5574d25d78981b124305091a089351e287cb613f46182e"), looks := true }, kinds := [], alts := [], laidByText := true, laidKinds := [.data, .data, .data, .sentinel, .sentinel, .listed, .data], laidTests := true, laidLooks := .later }
def ParseBackUptoCardSaid : Prop := Claim7.holds Tryz.pinned (.plain (OpenSpec.upto parseBackSpec)) parseBackUptoCard

/-- THE SECOND FORM's CARD OF 'cloisterlaw.FoldTwice'. -/
def foldTwiceUptoCard : Claim7 := { stood := { row := foldTwiceUptoRow, standIns := [], harness := (true, "25cde992b6eedbb55b5574d25d78981b124305091a089351e287cb613f46182e"), looks := true }, kinds := [], alts := [], laidByText := true, laidKinds := [.data, .data, .data, .sentinel, .sentinel, .listed, .data], laidTests := true, laidLooks := .later }
def FoldTwiceUptoCardSaid : Prop := Claim7.holds Tryz.pinned (.plain (OpenSpec.upto foldTwiceSpec)) foldTwiceUptoCard

/-- THE SECOND FORM's CARD OF 'cloisterlaw.ScopePrinted'. -/
def scopePrintedUptoCard : Claim7 := { stood := { row := scopePrintedUptoRow, standIns := [], harness := (true, "25cde992b6eedbb55b5574d25d78981b124305091a089351e287cb613f46182e"), looks := true }, kinds := [], alts := [], laidByText := true, laidKinds := [.data, .data, .data, .sentinel, .sentinel, .listed, .data], laidTests := true, laidLooks := .later }
def ScopePrintedUptoCardSaid : Prop := Claim7.holds Tryz.pinned (.plain (OpenSpec.upto scopePrintedSpec)) scopePrintedUptoCard

/-- THE SECOND FORM's CARD OF 'cloisterlaw.ParseProgram'. -/
def parseProgramUptoCard : Claim7 := { stood := { row := parseProgramUptoRow, standIns := [], harness := (true, "25cde992b6eedbb55b5574d25d78981b124305091a089351e287cb613f46182e"), looks := true }, kinds := [], alts := [], laidByText := true, laidKinds := [.data, .data, .data, .data, .sentinel, .sentinel, .listed, .data, .pinned], laidTests := true, laidLooks := .later }
def ParseProgramUptoCardSaid : Prop := Claim7.holds Tryz.pinned (.plain (OpenSpec.upto parseProgramSpec)) parseProgramUptoCard

/-- THE SECOND FORM's CARD OF 'cloisterlaw.TreeProgram'. -/
def treeProgramUptoCard : Claim7 := { stood := { row := treeProgramUptoRow, standIns := [], harness := (true, "25cde992b6eedbb55b5574d25d78981b124305091a089351e287cb613f46182e"), looks := true }, kinds := [], alts := [], laidByText := true, laidKinds := [.data, .data, .data, .data, .sentinel, .sentinel, .listed, .data, .pinned], laidTests := true, laidLooks := .later }
def TreeProgramUptoCardSaid : Prop := Claim7.holds Tryz.pinned (.plain (OpenSpec.upto treeProgramSpec)) treeProgramUptoCard

/-- THE SECOND FORM's CARD OF 'cloisterlaw.ScopeCheck'. -/
def scopeCheckUptoCard : Claim7 := { stood := { row := scopeCheckUptoRow, standIns := [], harness := (true, "25cde992b6eedbb55b5574d25d78981b124305091a089351e287cb613f46182e"), looks := true }, kinds := [], alts := [], laidByText := true, laidKinds := [.data, .data, .data, .data, .sentinel, .sentinel, .listed, .data, .pinned], laidTests := true, laidLooks := .later }
def ScopeCheckUptoCardSaid : Prop := Claim7.holds Tryz.pinned (.plain (OpenSpec.upto scopeCheckSpec)) scopeCheckUptoCard

/-- THE SECOND FORM's CARD OF 'cloisterlaw.ScopeType'. -/
def scopeTypeUptoCard : Claim7 := { stood := { row := scopeTypeUptoRow, standIns := [], harness := (true, "25cde992b6eedbb55b5574d25d78981b124305091a089351e287cb613f46182e"), looks := true }, kinds := [], alts := [], laidByText := true, laidKinds := [.data, .data, .data, .data, .sentinel, .sentinel, .listed, .data, .pinned], laidTests := true, laidLooks := .later }
def ScopeTypeUptoCardSaid : Prop := Claim7.holds Tryz.pinned (.plain (OpenSpec.upto scopeTypeSpec)) scopeTypeUptoCard

/-- THE SECOND FORM's CARD OF 'cloisterlaw.FoldProgram'. -/
def foldProgramUptoCard : Claim7 := { stood := { row := foldProgramUptoRow, standIns := [], harness := (true, "25cde992b6eedbb55b5574d25d78981b124305091a089351e287cb613f46182e"), looks := true }, kinds := [], alts := [], laidByText := true, laidKinds := [.data, .data, .data, .data, .sentinel, .sentinel, .listed, .data, .pinned], laidTests := true, laidLooks := .later }
def FoldProgramUptoCardSaid : Prop := Claim7.holds Tryz.pinned (.plain (OpenSpec.upto foldProgramSpec)) foldProgramUptoCard
end Rows
end Go.Proofs.YtminbehofnnhmaaGreatDoor
