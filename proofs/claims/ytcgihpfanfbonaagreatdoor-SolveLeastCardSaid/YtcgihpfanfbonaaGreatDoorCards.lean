/-
  DERIVED. GIVEN WITH THE SEED: THE CARDS: each row of YtcgihpfanfbonaaGreatDoorRows.lean that lists a variable, with what it lists TIED to the program's text (the seventh form; the later family's looks); each row that meets fmt, with fmt's text TOLD by the authors' own Lean function (tested against real Go, not proved from fmt's source: count such statements apart). THE CARD IS WHAT COUNTS. Prove the row's statement (the work); the ties are given (YtcgihpfanfbonaaGreatDoorTie.lean); close each card by the builder's one call (the guide's Derived/Test/ToyasCard.lean, 'card_holds'). Laid BY PROGRAM, IN A SANDBOX (cutbox-door.mjs). By AI agents, Wed Nov 11 2026. No macro, syntax, notation, axiom, sorry.
-/
import Derived.Test.YtcgihpfanfbonaaGreatDoorRows
import GoSem.ClaimSeven
namespace Go.Proofs.YtcgihpfanfbonaaGreatDoor
namespace Rows

/-- THE TIED CARD OF 'cloisterlaw.LabelNormal'. -/
def labelNormalCard : Claim7 := { stood := { row := labelNormalRow, standIns := [], harness := (true, "428bf99614343f2653e0c69e39dca1cbd436450633c6a6f2b25a0a8023c3737f"), looks := false }, kinds := [], alts := [], laidByText := true, laidKinds := [.data, .pinned], laidTests := true, laidLooks := .later }
def LabelNormalCardSaid : Prop := Claim7.holds Tryz.pinned (.plain (OpenSpec.ofChange labelNormalSpec)) labelNormalCard

/-- THE TIED CARD OF 'cloisterlaw.SolveLeast'. -/
def solveLeastCard : Claim7 := { stood := { row := solveLeastRow, standIns := [], harness := (true, "428bf99614343f2653e0c69e39dca1cbd436450633c6a6f2b25a0a8023c3737f"), looks := false }, kinds := [], alts := [], laidByText := true, laidKinds := [.data, .pinned], laidTests := true, laidLooks := .later }
def SolveLeastCardSaid : Prop := Claim7.holds Tryz.pinned (.plain (OpenSpec.ofChange solveLeastSpec)) solveLeastCard

/-- THE TIED CARD OF 'cloisterlaw.SolveBroken'. -/
def solveBrokenCard : Claim7 := { stood := { row := solveBrokenRow, standIns := [], harness := (true, "428bf99614343f2653e0c69e39dca1cbd436450633c6a6f2b25a0a8023c3737f"), looks := false }, kinds := [], alts := [], laidByText := true, laidKinds := [.data, .pinned], laidTests := true, laidLooks := .later }
def SolveBrokenCardSaid : Prop := Claim7.holds Tryz.pinned (.plain (OpenSpec.ofChange solveBrokenSpec)) solveBrokenCard

/-- THE SECOND FORM's CARD OF 'cloisterlaw.LabelNormal'. -/
def labelNormalUptoCard : Claim7 := { stood := { row := labelNormalUptoRow, standIns := [], harness := (true, "428bf99614343f2653e0c69e39dca1cbd436450633c6a6f2b25a0a8023c3737f"), looks := false }, kinds := [], alts := [], laidByText := true, laidKinds := [.data, .pinned], laidTests := true, laidLooks := .later }
def LabelNormalUptoCardSaid : Prop := Claim7.holds Tryz.pinned (.plain (OpenSpec.upto labelNormalSpec)) labelNormalUptoCard

/-- THE SECOND FORM's CARD OF 'cloisterlaw.SolveLeast'. -/
def solveLeastUptoCard : Claim7 := { stood := { row := solveLeastUptoRow, standIns := [], harness := (true, "428bf99614343f2653e0c69e39dca1cbd436450633c6a6f2b25a0a8023c3737f"), looks := false }, kinds := [], alts := [], laidByText := true, laidKinds := [.data, .pinned], laidTests := true, laidLooks := .later }
def SolveLeastUptoCardSaid : Prop := Claim7.holds Tryz.pinned (.plain (OpenSpec.upto solveLeastSpec)) solveLeastUptoCard

/-- THE SECOND FORM's CARD OF 'cloisterlaw.SolveBroken'. -/
def solveBrokenUptoCard : Claim7 := { stood := { row := solveBrokenUptoRow, standIns := [], harness := (true, "428bf99614343f2653e0c69e39dca1cbd436450633c6a6f2b25a0a8023c3737f"), looks := false }, kinds := [], alts := [], laidByText := true, laidKinds := [.data, .pinned], laidTests := true, laidLooks := .later }
def SolveBrokenUptoCardSaid : Prop := Claim7.holds Tryz.pinned (.plain (OpenSpec.upto solveBrokenSpec)) solveBrokenUptoCard
end Rows
end Go.Proofs.YtcgihpfanfbonaaGreatDoor
