/-
  No cell of these rows narrows 'for every input' (looked for: loops, veiled, ifaces, maps, wideKeys, modest, calm, conditions, laid).
  DERIVED. THE GIVEN ROWS OF THIS SEAT. 7 by the template 'for every input the law returns true; each argument reads behind the call as it read before'; 0 by the template 'total and deterministic' (their statements: YtcobgbkoeehdnaaTotals.lean).
  GIVEN WITH THE SEED: the statements are not yours to turn. If you find one false, say at which input.
  Laid BY PROGRAM, IN A SANDBOX (cutbox-rows.mjs): the forced cells as the released guide's own fill.sh prints them over the translation b496e65990513785… (all of the seat's roots in one cut). By AI agents, Wed Nov 11 2026. No macro, syntax, notation, axiom, sorry.
-/
import Derived.Test.YtcobgbkoeehdnaaChecked
import GoSem.Claim
import GoSem.ClaimJoined
import GoSem.ClaimMapViews
import Derived.JoinedTies
import Derived.KernelRfl
namespace Go.Proofs.Ytcobgbkoeehdnaa
/- THE CELL 'sum', in the pinned program and in every row, IS THE sha256 OF THE DUMP (.gsa) THAT YtcobgbkoeehdnaaProg.lean LOADS. Nothing in Lean hashes anything: it is a label: what it is worth is what the hold of that sum in a sandbox is worth. -/
noncomputable def Try.pinned : Pinned := { name := "ytcobgbkoeehdnaa", sum := "b496e65990513785a7f3eb1ceaa7f2d4455675be214249b551297a8f38cf71a7", checked := Try.checked }
namespace Rows
def none {H : Type} : Left H := { results := [], args := [] }

/-- 'cloisterlaw.ScanJoin': WHATEVER THE INPUT: true; the input reads as it did. -/
def scanJoinSpec : ChangeSpec := { name := "scanJoin", fn := fun _ => fun
  | [d] => { results := [.lit (.bool true)], args := [d] }
  | _ => none }
def scanJoinRow : OpenClaim := { program := "ytcobgbkoeehdnaa", sum := "b496e65990513785a7f3eb1ceaa7f2d4455675be214249b551297a8f38cf71a7", func := "cloister/cloisterlaw.ScanJoin", spec := "scanJoin", inPlace := ["internal/abi.NoEscape", "internal/bytealg.MakeNoZero"], unfollowed := true, recurses := true, plainKeys := false, apart := false }
def ScanJoinSaid : Prop := scanJoinRow.holds Try.pinned (OpenSpec.ofChange scanJoinSpec)

/-- ITS FALSE NEIGHBOUR: 'it returns false'. Refute it at one input. -/
def scanJoinWrong : ChangeSpec := { name := "scanJoin", fn := fun _ => fun
  | [d] => { results := [.lit (.bool false)], args := [d] }
  | _ => none }
def ScanJoinWrongFalsely : Prop := scanJoinRow.holds Try.pinned (OpenSpec.ofChange scanJoinWrong)

/-- 'cloisterlaw.ScanBack': WHATEVER THE INPUT: true; the input reads as it did. -/
def scanBackSpec : ChangeSpec := { name := "scanBack", fn := fun _ => fun
  | [d] => { results := [.lit (.bool true)], args := [d] }
  | _ => none }
def scanBackRow : OpenClaim := { program := "ytcobgbkoeehdnaa", sum := "b496e65990513785a7f3eb1ceaa7f2d4455675be214249b551297a8f38cf71a7", func := "cloister/cloisterlaw.ScanBack", spec := "scanBack", inPlace := ["internal/abi.NoEscape", "internal/bytealg.MakeNoZero"], unfollowed := true, recurses := true, plainKeys := false, apart := false }
def ScanBackSaid : Prop := scanBackRow.holds Try.pinned (OpenSpec.ofChange scanBackSpec)

/-- ITS FALSE NEIGHBOUR: 'it returns false'. Refute it at one input. -/
def scanBackWrong : ChangeSpec := { name := "scanBack", fn := fun _ => fun
  | [d] => { results := [.lit (.bool false)], args := [d] }
  | _ => none }
def ScanBackWrongFalsely : Prop := scanBackRow.holds Try.pinned (OpenSpec.ofChange scanBackWrong)

/-- 'cloisterlaw.ViewMore': WHATEVER THE INPUT: true; the input reads as it did. -/
def viewMoreSpec : ChangeSpec := { name := "viewMore", fn := fun _ => fun
  | [d1, d2, d3, d4, d5] => { results := [.lit (.bool true)], args := [d1, d2, d3, d4, d5] }
  | _ => none }
def viewMoreRow : OpenClaim := { program := "ytcobgbkoeehdnaa", sum := "b496e65990513785a7f3eb1ceaa7f2d4455675be214249b551297a8f38cf71a7", func := "cloister/cloisterlaw.ViewMore", spec := "viewMore", unfollowed := true, recurses := true, plainKeys := false, apart := false }
def ViewMoreSaid : Prop := viewMoreRow.holds Try.pinned (OpenSpec.ofChange viewMoreSpec)

/-- ITS FALSE NEIGHBOUR: 'it returns false'. Refute it at one input. -/
def viewMoreWrong : ChangeSpec := { name := "viewMore", fn := fun _ => fun
  | [d1, d2, d3, d4, d5] => { results := [.lit (.bool false)], args := [d1, d2, d3, d4, d5] }
  | _ => none }
def ViewMoreWrongFalsely : Prop := viewMoreRow.holds Try.pinned (OpenSpec.ofChange viewMoreWrong)

/-- 'cloisterlaw.LabelPrint': WHATEVER THE INPUT: true; the input reads as it did. -/
def labelPrintSpec : ChangeSpec := { name := "labelPrint", fn := fun _ => fun
  | [d] => { results := [.lit (.bool true)], args := [d] }
  | _ => none }
def labelPrintRow : OpenClaim := { program := "ytcobgbkoeehdnaa", sum := "b496e65990513785a7f3eb1ceaa7f2d4455675be214249b551297a8f38cf71a7", func := "cloister/cloisterlaw.LabelPrint", spec := "labelPrint", inPlace := ["internal/abi.NoEscape", "internal/bytealg.MakeNoZero"], unfollowed := true, recurses := true, plainKeys := false, apart := false }
def LabelPrintSaid : Prop := labelPrintRow.holds Try.pinned (OpenSpec.ofChange labelPrintSpec)

/-- ITS FALSE NEIGHBOUR: 'it returns false'. Refute it at one input. -/
def labelPrintWrong : ChangeSpec := { name := "labelPrint", fn := fun _ => fun
  | [d] => { results := [.lit (.bool false)], args := [d] }
  | _ => none }
def LabelPrintWrongFalsely : Prop := labelPrintRow.holds Try.pinned (OpenSpec.ofChange labelPrintWrong)

/-- 'cloisterlaw.LabelChain': WHATEVER THE INPUT: true; the input reads as it did. -/
def labelChainSpec : ChangeSpec := { name := "labelChain", fn := fun _ => fun
  | [d1, d2, d3, d4, d5] => { results := [.lit (.bool true)], args := [d1, d2, d3, d4, d5] }
  | _ => none }
def labelChainRow : OpenClaim := { program := "ytcobgbkoeehdnaa", sum := "b496e65990513785a7f3eb1ceaa7f2d4455675be214249b551297a8f38cf71a7", func := "cloister/cloisterlaw.LabelChain", spec := "labelChain", inPlace := ["internal/abi.NoEscape", "internal/bytealg.MakeNoZero"], unfollowed := true, recurses := true, plainKeys := false, apart := false }
def LabelChainSaid : Prop := labelChainRow.holds Try.pinned (OpenSpec.ofChange labelChainSpec)

/-- ITS FALSE NEIGHBOUR: 'it returns false'. Refute it at one input. -/
def labelChainWrong : ChangeSpec := { name := "labelChain", fn := fun _ => fun
  | [d1, d2, d3, d4, d5] => { results := [.lit (.bool false)], args := [d1, d2, d3, d4, d5] }
  | _ => none }
def LabelChainWrongFalsely : Prop := labelChainRow.holds Try.pinned (OpenSpec.ofChange labelChainWrong)

/-- 'cloisterlaw.ScanNote': WHATEVER THE INPUT: true; the input reads as it did. -/
def scanNoteSpec : ChangeSpec := { name := "scanNote", fn := fun _ => fun
  | [d1, d2] => { results := [.lit (.bool true)], args := [d1, d2] }
  | _ => none }
def scanNoteRow : OpenClaim := { program := "ytcobgbkoeehdnaa", sum := "b496e65990513785a7f3eb1ceaa7f2d4455675be214249b551297a8f38cf71a7", func := "cloister/cloisterlaw.ScanNote", spec := "scanNote", inPlace := ["internal/abi.NoEscape", "internal/bytealg.MakeNoZero", "internal/bytealg.IndexByteString", "internal/bytealg.IndexString"], unfollowed := true, recurses := true, named := ["internal/bytealg.MaxLen"], plainKeys := false, apart := false }
def ScanNoteSaid : Prop := scanNoteRow.holds Try.pinned (OpenSpec.ofChange scanNoteSpec)

/-- ITS FALSE NEIGHBOUR: 'it returns false'. Refute it at one input. -/
def scanNoteWrong : ChangeSpec := { name := "scanNote", fn := fun _ => fun
  | [d1, d2] => { results := [.lit (.bool false)], args := [d1, d2] }
  | _ => none }
def ScanNoteWrongFalsely : Prop := scanNoteRow.holds Try.pinned (OpenSpec.ofChange scanNoteWrong)

/-- 'cloisterlaw.LabelFewer': WHATEVER THE INPUT: true; the input reads as it did. -/
def labelFewerSpec : ChangeSpec := { name := "labelFewer", fn := fun _ => fun
  | [d1, d2, d3, d4, d5] => { results := [.lit (.bool true)], args := [d1, d2, d3, d4, d5] }
  | _ => none }
def labelFewerRow : OpenClaim := { program := "ytcobgbkoeehdnaa", sum := "b496e65990513785a7f3eb1ceaa7f2d4455675be214249b551297a8f38cf71a7", func := "cloister/cloisterlaw.LabelFewer", spec := "labelFewer", inPlace := ["internal/abi.NoEscape", "internal/bytealg.MakeNoZero"], unfollowed := true, recurses := true, plainKeys := false, apart := false }
def LabelFewerSaid : Prop := labelFewerRow.holds Try.pinned (OpenSpec.ofChange labelFewerSpec)

/-- ITS FALSE NEIGHBOUR: 'it returns false'. Refute it at one input. -/
def labelFewerWrong : ChangeSpec := { name := "labelFewer", fn := fun _ => fun
  | [d1, d2, d3, d4, d5] => { results := [.lit (.bool false)], args := [d1, d2, d3, d4, d5] }
  | _ => none }
def LabelFewerWrongFalsely : Prop := labelFewerRow.holds Try.pinned (OpenSpec.ofChange labelFewerWrong)

/- THE SECOND FORM. 'bulk': how many values and letters a reading holds, each counted each time it is reached (what is shared counts as often as it is met; a slice's spare places count too). A statement '..UptoSaid' is the law's where the arguments, and the package variables that the reading takes, are together of bulk at most 1048576: NARROWER than '..Said'. Prove '..Said' where nothing that the law and all that it calls make is longer than what came in: it says more and counts as full. Else prove '..UptoSaid'. A law counts once. -/
mutual
def uptoBulk {H : Type} : DataW H → Nat
  | .lit (.string bytes) => bytes.length + 1
  | .lit _ => 1
  | .nil => 1
  | .ptr d => uptoBulk d + 1
  | .slice elems spare => uptoBulkAll elems + uptoBulkAll spare + 1
  | .agg parts => uptoBulkAll parts + 1
  | .iface _ d => uptoBulk d + 1
  | .map entries => uptoBulkEntries entries + 1
  | .held _ => 1
def uptoBulkAll {H : Type} : List (DataW H) → Nat
  | [] => 0
  | d :: r => uptoBulk d + uptoBulkAll r
def uptoBulkEntries {H : Type} : List (Lit × DataW H) → Nat
  | [] => 0
  | x :: r => uptoBulkEntry x + uptoBulkEntries r
def uptoBulkEntry {H : Type} : Lit × DataW H → Nat
  | (.string bytes, d) => bytes.length + uptoBulk d + 1
  | (_, d) => uptoBulk d + 1
 end
def uptoSmall : (H : Type) → List (DataW H) → Bool := fun _ ds => decide (uptoBulkAll ds ≤ 1048576)
def OpenSpec.upto (s : _root_.Go.ChangeSpec) : _root_.Go.OpenSpec := { _root_.Go.OpenSpec.ofChange s with cond := some uptoSmall }

/-- 'cloisterlaw.ScanJoin', WHERE WHAT IT READS IS OF BULK AT MOST 1048576: true; the input reads as it did. -/
def scanJoinUptoRow : OpenClaim := { program := "ytcobgbkoeehdnaa", sum := "b496e65990513785a7f3eb1ceaa7f2d4455675be214249b551297a8f38cf71a7", func := "cloister/cloisterlaw.ScanJoin", spec := "scanJoin", inPlace := ["internal/abi.NoEscape", "internal/bytealg.MakeNoZero"], unfollowed := true, recurses := true, plainKeys := false, apart := false, narrowed := true }
def ScanJoinUptoSaid : Prop := scanJoinUptoRow.holds Try.pinned (OpenSpec.upto scanJoinSpec)

/-- 'cloisterlaw.ScanBack', WHERE WHAT IT READS IS OF BULK AT MOST 1048576: true; the input reads as it did. -/
def scanBackUptoRow : OpenClaim := { program := "ytcobgbkoeehdnaa", sum := "b496e65990513785a7f3eb1ceaa7f2d4455675be214249b551297a8f38cf71a7", func := "cloister/cloisterlaw.ScanBack", spec := "scanBack", inPlace := ["internal/abi.NoEscape", "internal/bytealg.MakeNoZero"], unfollowed := true, recurses := true, plainKeys := false, apart := false, narrowed := true }
def ScanBackUptoSaid : Prop := scanBackUptoRow.holds Try.pinned (OpenSpec.upto scanBackSpec)

/-- 'cloisterlaw.ViewMore', WHERE WHAT IT READS IS OF BULK AT MOST 1048576: true; the input reads as it did. -/
def viewMoreUptoRow : OpenClaim := { program := "ytcobgbkoeehdnaa", sum := "b496e65990513785a7f3eb1ceaa7f2d4455675be214249b551297a8f38cf71a7", func := "cloister/cloisterlaw.ViewMore", spec := "viewMore", unfollowed := true, recurses := true, plainKeys := false, apart := false, narrowed := true }
def ViewMoreUptoSaid : Prop := viewMoreUptoRow.holds Try.pinned (OpenSpec.upto viewMoreSpec)

/-- 'cloisterlaw.LabelPrint', WHERE WHAT IT READS IS OF BULK AT MOST 1048576: true; the input reads as it did. -/
def labelPrintUptoRow : OpenClaim := { program := "ytcobgbkoeehdnaa", sum := "b496e65990513785a7f3eb1ceaa7f2d4455675be214249b551297a8f38cf71a7", func := "cloister/cloisterlaw.LabelPrint", spec := "labelPrint", inPlace := ["internal/abi.NoEscape", "internal/bytealg.MakeNoZero"], unfollowed := true, recurses := true, plainKeys := false, apart := false, narrowed := true }
def LabelPrintUptoSaid : Prop := labelPrintUptoRow.holds Try.pinned (OpenSpec.upto labelPrintSpec)

/-- 'cloisterlaw.LabelChain', WHERE WHAT IT READS IS OF BULK AT MOST 1048576: true; the input reads as it did. -/
def labelChainUptoRow : OpenClaim := { program := "ytcobgbkoeehdnaa", sum := "b496e65990513785a7f3eb1ceaa7f2d4455675be214249b551297a8f38cf71a7", func := "cloister/cloisterlaw.LabelChain", spec := "labelChain", inPlace := ["internal/abi.NoEscape", "internal/bytealg.MakeNoZero"], unfollowed := true, recurses := true, plainKeys := false, apart := false, narrowed := true }
def LabelChainUptoSaid : Prop := labelChainUptoRow.holds Try.pinned (OpenSpec.upto labelChainSpec)

/-- 'cloisterlaw.ScanNote', WHERE WHAT IT READS IS OF BULK AT MOST 1048576: true; the input reads as it did. -/
def scanNoteUptoRow : OpenClaim := { program := "ytcobgbkoeehdnaa", sum := "b496e65990513785a7f3eb1ceaa7f2d4455675be214249b551297a8f38cf71a7", func := "cloister/cloisterlaw.ScanNote", spec := "scanNote", inPlace := ["internal/abi.NoEscape", "internal/bytealg.MakeNoZero", "internal/bytealg.IndexByteString", "internal/bytealg.IndexString"], unfollowed := true, recurses := true, named := ["internal/bytealg.MaxLen"], plainKeys := false, apart := false, narrowed := true }
def ScanNoteUptoSaid : Prop := scanNoteUptoRow.holds Try.pinned (OpenSpec.upto scanNoteSpec)

/-- 'cloisterlaw.LabelFewer', WHERE WHAT IT READS IS OF BULK AT MOST 1048576: true; the input reads as it did. -/
def labelFewerUptoRow : OpenClaim := { program := "ytcobgbkoeehdnaa", sum := "b496e65990513785a7f3eb1ceaa7f2d4455675be214249b551297a8f38cf71a7", func := "cloister/cloisterlaw.LabelFewer", spec := "labelFewer", inPlace := ["internal/abi.NoEscape", "internal/bytealg.MakeNoZero"], unfollowed := true, recurses := true, plainKeys := false, apart := false, narrowed := true }
def LabelFewerUptoSaid : Prop := labelFewerUptoRow.holds Try.pinned (OpenSpec.upto labelFewerSpec)

end Rows
end Go.Proofs.Ytcobgbkoeehdnaa
