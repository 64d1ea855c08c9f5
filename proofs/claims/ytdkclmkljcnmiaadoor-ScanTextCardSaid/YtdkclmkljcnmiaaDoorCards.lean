/-
  DERIVED. GIVEN WITH THE SEED: THE CARDS: each row of YtdkclmkljcnmiaaDoorRows.lean that lists a variable, with what it lists TIED to the program's text (the seventh form; the later family's looks); each row that meets fmt, with fmt's text TOLD by the authors' own Lean function (tested against real Go, not proved from fmt's source: count such statements apart). THE CARD IS WHAT COUNTS. Prove the row's statement (the work); the ties are given (YtdkclmkljcnmiaaDoorTie.lean); close each card by the builder's one call (the guide's Derived/Test/ToyasCard.lean, 'card_holds'). Laid BY PROGRAM, IN A SANDBOX (cutbox-door.mjs). By AI agents, Wed Nov 11 2026. No macro, syntax, notation, axiom, sorry.
-/
import Derived.Test.YtdkclmkljcnmiaaDoorRows
import GoSem.ClaimSeven
namespace Go.Proofs.YtdkclmkljcnmiaaDoor
namespace Rows

/-- THE TIED CARD OF 'cloisterlaw.ScanText'. -/
def scanTextCard : Claim7 := { stood := { row := scanTextRow, standIns := [], harness := (true, "4766a9cd307d61c2c2606972df1fdd7564b98a665ebf6c5da31211d0af38a100"), looks := false }, kinds := [], alts := [], laidByText := true, laidKinds := [.data, .listed, .data, .pinned], laidTests := true, laidLooks := .later }
def ScanTextCardSaid : Prop := Claim7.holds Tryd.pinned (.plain (OpenSpec.ofChange scanTextSpec)) scanTextCard

/-- THE SECOND FORM's CARD OF 'cloisterlaw.ScanText'. -/
def scanTextUptoCard : Claim7 := { stood := { row := scanTextUptoRow, standIns := [], harness := (true, "4766a9cd307d61c2c2606972df1fdd7564b98a665ebf6c5da31211d0af38a100"), looks := false }, kinds := [], alts := [], laidByText := true, laidKinds := [.data, .listed, .data, .pinned], laidTests := true, laidLooks := .later }
def ScanTextUptoCardSaid : Prop := Claim7.holds Tryd.pinned (.plain (OpenSpec.upto scanTextSpec)) scanTextUptoCard
end Rows
end Go.Proofs.YtdkclmkljcnmiaaDoor
