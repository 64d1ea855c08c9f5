/-
  No cell of these rows narrows 'for every input' (looked for: loops, veiled, ifaces, maps, wideKeys, modest, calm, conditions, laid).
  DERIVED. THE GIVEN ROWS OF THIS SEAT. 3 by the template 'for every input the law returns true; each argument reads behind the call as it read before'; 0 by the template 'total and deterministic' (their statements: YtjjlkckhbhgmoaaTotals.lean).
  GIVEN WITH THE SEED: the statements are not yours to turn. If you find one false, say at which input.
  Laid BY PROGRAM, IN A SANDBOX (cutbox-rows.mjs): the forced cells as the released guide's own fill.sh prints them over the translation ada90a8a7a831a6e… (all of the seat's roots in one cut). By AI agents, Wed Nov 11 2026. No macro, syntax, notation, axiom, sorry.
-/
import Derived.Test.YtjjlkckhbhgmoaaChecked
import GoSem.Claim
import GoSem.ClaimJoined
import GoSem.ClaimMapViews
import Derived.JoinedTies
import Derived.KernelRfl
namespace Go.Proofs.Ytjjlkckhbhgmoaa
/- THE CELL 'sum', in the pinned program and in every row, IS THE sha256 OF THE DUMP (.gsa) THAT YtjjlkckhbhgmoaaProg.lean LOADS. Nothing in Lean hashes anything: it is a label: what it is worth is what the hold of that sum in a sandbox is worth. -/
noncomputable def Try.pinned : Pinned := { name := "ytjjlkckhbhgmoaa", sum := "ada90a8a7a831a6ebc33a7f6c56ec47d370de1159adeb6e80d783d1518faa852", checked := Try.checked }
namespace Rows
def none {H : Type} : Left H := { results := [], args := [] }

/-- 'cloisterlaw.LabelLess': WHATEVER THE INPUT: true; the input reads as it did. -/
def labelLessSpec : ChangeSpec := { name := "labelLess", fn := fun _ => fun
  | [d1, d2, d3, d4] => { results := [.lit (.bool true)], args := [d1, d2, d3, d4] }
  | _ => none }
def labelLessRow : OpenClaim := { program := "ytjjlkckhbhgmoaa", sum := "ada90a8a7a831a6ebc33a7f6c56ec47d370de1159adeb6e80d783d1518faa852", func := "cloister/cloisterlaw.LabelLess", spec := "labelLess", inPlace := ["internal/bytealg.abigen_runtime_cmpstring", "internal/abi.NoEscape", "internal/bytealg.MakeNoZero"], unfollowed := true, recurses := true, plainKeys := false, apart := false }
def LabelLessSaid : Prop := labelLessRow.holds Try.pinned (OpenSpec.ofChange labelLessSpec)

/-- ITS FALSE NEIGHBOUR: 'it returns false'. Refute it at one input. -/
def labelLessWrong : ChangeSpec := { name := "labelLess", fn := fun _ => fun
  | [d1, d2, d3, d4] => { results := [.lit (.bool false)], args := [d1, d2, d3, d4] }
  | _ => none }
def LabelLessWrongFalsely : Prop := labelLessRow.holds Try.pinned (OpenSpec.ofChange labelLessWrong)

/-- 'cloisterlaw.LabelJoin': WHATEVER THE INPUT: true; the input reads as it did. -/
def labelJoinSpec : ChangeSpec := { name := "labelJoin", fn := fun _ => fun
  | [d1, d2, d3, d4, d5] => { results := [.lit (.bool true)], args := [d1, d2, d3, d4, d5] }
  | _ => none }
def labelJoinRow : OpenClaim := { program := "ytjjlkckhbhgmoaa", sum := "ada90a8a7a831a6ebc33a7f6c56ec47d370de1159adeb6e80d783d1518faa852", func := "cloister/cloisterlaw.LabelJoin", spec := "labelJoin", inPlace := ["internal/bytealg.abigen_runtime_cmpstring", "internal/abi.NoEscape", "internal/bytealg.MakeNoZero"], unfollowed := true, recurses := true, plainKeys := false, apart := false }
def LabelJoinSaid : Prop := labelJoinRow.holds Try.pinned (OpenSpec.ofChange labelJoinSpec)

/-- ITS FALSE NEIGHBOUR: 'it returns false'. Refute it at one input. -/
def labelJoinWrong : ChangeSpec := { name := "labelJoin", fn := fun _ => fun
  | [d1, d2, d3, d4, d5] => { results := [.lit (.bool false)], args := [d1, d2, d3, d4, d5] }
  | _ => none }
def LabelJoinWrongFalsely : Prop := labelJoinRow.holds Try.pinned (OpenSpec.ofChange labelJoinWrong)

/-- 'cloisterlaw.SolveHolds': WHATEVER THE INPUT: true; the input reads as it did. -/
def solveHoldsSpec : ChangeSpec := { name := "solveHolds", fn := fun _ => fun
  | [d1, d2, d3, d4] => { results := [.lit (.bool true)], args := [d1, d2, d3, d4] }
  | _ => none }
def solveHoldsRow : OpenClaim := { program := "ytjjlkckhbhgmoaa", sum := "ada90a8a7a831a6ebc33a7f6c56ec47d370de1159adeb6e80d783d1518faa852", func := "cloister/cloisterlaw.SolveHolds", spec := "solveHolds", inPlace := ["internal/bytealg.abigen_runtime_cmpstring"], unfollowed := true, recurses := true, plainKeys := false, apart := false }
def SolveHoldsSaid : Prop := solveHoldsRow.holds Try.pinned (OpenSpec.ofChange solveHoldsSpec)

/-- ITS FALSE NEIGHBOUR: 'it returns false'. Refute it at one input. -/
def solveHoldsWrong : ChangeSpec := { name := "solveHolds", fn := fun _ => fun
  | [d1, d2, d3, d4] => { results := [.lit (.bool false)], args := [d1, d2, d3, d4] }
  | _ => none }
def SolveHoldsWrongFalsely : Prop := solveHoldsRow.holds Try.pinned (OpenSpec.ofChange solveHoldsWrong)

/- THE SECOND FORM. 'bulk': how many values and letters a reading holds, each counted each time it is reached (what is shared counts as often as it is met; a slice's spare places count too). A statement '..UptoSaid' is the law's where the arguments, and the package variables that the reading takes, are together of bulk at most 1048576: NARROWER than '..Said'. Prove '..Said' where nothing that the law and all that it calls make is longer than what came in: it says more and counts as full. Else prove '..UptoSaid'. A law counts once. -/
mutual
def uptoBulk {H : Type} : DataW H → Nat
  | .lit (.string bytes) => bytes.length + 1
  | .lit _ => 1
  | .nil => 1
  | .ptr d => uptoBulk d + 1
  | .slice elems spare => uptoBulkAll elems + uptoBulkAll spare + 1
  | .agg parts => uptoBulkAll parts + 1
  | .iface _ d => uptoBulk d + 1
  | .map entries => uptoBulkEntries entries + 1
  | .held _ => 1
def uptoBulkAll {H : Type} : List (DataW H) → Nat
  | [] => 0
  | d :: r => uptoBulk d + uptoBulkAll r
def uptoBulkEntries {H : Type} : List (Lit × DataW H) → Nat
  | [] => 0
  | x :: r => uptoBulkEntry x + uptoBulkEntries r
def uptoBulkEntry {H : Type} : Lit × DataW H → Nat
  | (.string bytes, d) => bytes.length + uptoBulk d + 1
  | (_, d) => uptoBulk d + 1
 end
def uptoSmall : (H : Type) → List (DataW H) → Bool := fun _ ds => decide (uptoBulkAll ds ≤ 1048576)
def OpenSpec.upto (s : _root_.Go.ChangeSpec) : _root_.Go.OpenSpec := { _root_.Go.OpenSpec.ofChange s with cond := some uptoSmall }

/-- 'cloisterlaw.LabelLess', WHERE WHAT IT READS IS OF BULK AT MOST 1048576: true; the input reads as it did. -/
def labelLessUptoRow : OpenClaim := { program := "ytjjlkckhbhgmoaa", sum := "ada90a8a7a831a6ebc33a7f6c56ec47d370de1159adeb6e80d783d1518faa852", func := "cloister/cloisterlaw.LabelLess", spec := "labelLess", inPlace := ["internal/bytealg.abigen_runtime_cmpstring", "internal/abi.NoEscape", "internal/bytealg.MakeNoZero"], unfollowed := true, recurses := true, plainKeys := false, apart := false, narrowed := true }
def LabelLessUptoSaid : Prop := labelLessUptoRow.holds Try.pinned (OpenSpec.upto labelLessSpec)

/-- 'cloisterlaw.LabelJoin', WHERE WHAT IT READS IS OF BULK AT MOST 1048576: true; the input reads as it did. -/
def labelJoinUptoRow : OpenClaim := { program := "ytjjlkckhbhgmoaa", sum := "ada90a8a7a831a6ebc33a7f6c56ec47d370de1159adeb6e80d783d1518faa852", func := "cloister/cloisterlaw.LabelJoin", spec := "labelJoin", inPlace := ["internal/bytealg.abigen_runtime_cmpstring", "internal/abi.NoEscape", "internal/bytealg.MakeNoZero"], unfollowed := true, recurses := true, plainKeys := false, apart := false, narrowed := true }
def LabelJoinUptoSaid : Prop := labelJoinUptoRow.holds Try.pinned (OpenSpec.upto labelJoinSpec)

/-- 'cloisterlaw.SolveHolds', WHERE WHAT IT READS IS OF BULK AT MOST 1048576: true; the input reads as it did. -/
def solveHoldsUptoRow : OpenClaim := { program := "ytjjlkckhbhgmoaa", sum := "ada90a8a7a831a6ebc33a7f6c56ec47d370de1159adeb6e80d783d1518faa852", func := "cloister/cloisterlaw.SolveHolds", spec := "solveHolds", inPlace := ["internal/bytealg.abigen_runtime_cmpstring"], unfollowed := true, recurses := true, plainKeys := false, apart := false, narrowed := true }
def SolveHoldsUptoSaid : Prop := solveHoldsUptoRow.holds Try.pinned (OpenSpec.upto solveHoldsSpec)

end Rows
end Go.Proofs.Ytjjlkckhbhgmoaa
