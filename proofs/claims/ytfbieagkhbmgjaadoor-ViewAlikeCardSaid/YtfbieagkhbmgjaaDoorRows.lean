/-
  NARROWER THAN 'FOR EVERY INPUT', by the rows' own cells (each row's printed sentence says how): ChiefLeast: laid · ChiefActs: laid · ViewSeen: laid · ViewAlike: loops, laid · LabelFlows: laid.
  DERIVED. THE GIVEN ROWS OF THIS SEAT. 5 by the template 'for every input the law returns true; each argument reads behind the call as it read before'; 0 by the template 'total and deterministic' (their statements: YtfbieagkhbmgjaaDoorTotals.lean).
  GIVEN WITH THE SEED: the statements are not yours to turn. If you find one false, say at which input.
  Laid BY PROGRAM, IN A SANDBOX (cutbox-rows.mjs): the forced cells as the released guide's own fill.sh prints them over the translation 1bb171d4d6a3fa1b… (all of the seat's roots in one cut). By AI agents, Wed Nov 11 2026. No macro, syntax, notation, axiom, sorry.
-/
import Derived.Test.YtfbieagkhbmgjaaDoorChecked
import GoSem.PinnedTables
import GoSem.Claim
import GoSem.ClaimJoined
import GoSem.ClaimMapViews
import Derived.JoinedTies
import Derived.KernelRfl
namespace Go.Proofs.YtfbieagkhbmgjaaDoor
/- THE CELL 'sum', in the pinned program and in every row, IS THE sha256 OF THE DUMP (.gsa) THAT YtfbieagkhbmgjaaDoorProg.lean LOADS. Nothing in Lean hashes anything: it is a label: what it is worth is what the hold of that sum in a sandbox is worth. -/
noncomputable def Tryd.pinned : Pinned := { name := "ytfbieagkhbmgjaadoor", sum := "1bb171d4d6a3fa1b51de6e6a10bc862d62c65b071503efe7c2102d698eb0cf57", checked := Tryd.checked }
namespace Rows
def none {H : Type} : Left H := { results := [], args := [] }

/- WHAT THE LISTED PACKAGE-LEVEL VARIABLES READ AS WHEN THE CALL BEGINS. Each datum BY PROGRAM (the guide's laid-datum.mjs) off the statement by which the dump's own 'gosem.cut.vars' lays the variable. In a bare row this is a premise. The card (YtfbieagkhbmgjaaDoorCards.lean) ties it to the program's text. -/
def laid_unicode_utf8_acceptRanges {H : Type} : DataW H := .agg [.agg [.lit (.int .u8 128), .lit (.int .u8 191)], .agg [.lit (.int .u8 160), .lit (.int .u8 191)], .agg [.lit (.int .u8 128), .lit (.int .u8 159)], .agg [.lit (.int .u8 144), .lit (.int .u8 191)], .agg [.lit (.int .u8 128), .lit (.int .u8 143)], .agg [.lit (.int .u8 0), .lit (.int .u8 0)], .agg [.lit (.int .u8 0), .lit (.int .u8 0)], .agg [.lit (.int .u8 0), .lit (.int .u8 0)], .agg [.lit (.int .u8 0), .lit (.int .u8 0)], .agg [.lit (.int .u8 0), .lit (.int .u8 0)], .agg [.lit (.int .u8 0), .lit (.int .u8 0)], .agg [.lit (.int .u8 0), .lit (.int .u8 0)], .agg [.lit (.int .u8 0), .lit (.int .u8 0)], .agg [.lit (.int .u8 0), .lit (.int .u8 0)], .agg [.lit (.int .u8 0), .lit (.int .u8 0)], .agg [.lit (.int .u8 0), .lit (.int .u8 0)]]
/-- One of Go's own tables, pinned by name: the form's constant. -/
def laid_unicode_utf8_first : DataW Unit := Go.Pinned.utf8First

/-- 'cloisterlaw.ChiefLeast': WHATEVER THE INPUT: true; the input reads as it did. -/
def chiefLeastSpec : ChangeSpec := { name := "chiefLeast", fn := fun _ => fun
  | [d1, d2] => { results := [.lit (.bool true)], args := [d1, d2] }
  | _ => none }
def chiefLeastRow : OpenClaim := { program := "ytfbieagkhbmgjaadoor", sum := "1bb171d4d6a3fa1b51de6e6a10bc862d62c65b071503efe7c2102d698eb0cf57", func := "cloister/cloisterlaw.ChiefLeast", spec := "chiefLeast", inPlace := ["internal/bytealg.IndexByteString", "internal/bytealg.IndexString"], unfollowed := true, recurses := true, named := ["internal/bytealg.MaxLen", "unicode/utf8.first", "unicode/utf8.acceptRanges"], plainKeys := false, apart := false, laid := [("unicode/utf8.acceptRanges", laid_unicode_utf8_acceptRanges), ("unicode/utf8.first", laid_unicode_utf8_first)] }
def ChiefLeastSaid : Prop := chiefLeastRow.holds Tryd.pinned (OpenSpec.ofChange chiefLeastSpec)

/-- ITS FALSE NEIGHBOUR: 'it returns false'. Refute it at one input. -/
def chiefLeastWrong : ChangeSpec := { name := "chiefLeast", fn := fun _ => fun
  | [d1, d2] => { results := [.lit (.bool false)], args := [d1, d2] }
  | _ => none }
def ChiefLeastWrongFalsely : Prop := chiefLeastRow.holds Tryd.pinned (OpenSpec.ofChange chiefLeastWrong)

/-- 'cloisterlaw.ChiefActs': WHATEVER THE INPUT: true; the input reads as it did. -/
def chiefActsSpec : ChangeSpec := { name := "chiefActs", fn := fun _ => fun
  | [d1, d2, d3, d4] => { results := [.lit (.bool true)], args := [d1, d2, d3, d4] }
  | _ => none }
def chiefActsRow : OpenClaim := { program := "ytfbieagkhbmgjaadoor", sum := "1bb171d4d6a3fa1b51de6e6a10bc862d62c65b071503efe7c2102d698eb0cf57", func := "cloister/cloisterlaw.ChiefActs", spec := "chiefActs", inPlace := ["internal/bytealg.IndexByteString", "internal/bytealg.IndexString"], named := ["internal/bytealg.MaxLen", "unicode/utf8.first", "unicode/utf8.acceptRanges"], plainKeys := false, apart := false, laid := [("unicode/utf8.acceptRanges", laid_unicode_utf8_acceptRanges), ("unicode/utf8.first", laid_unicode_utf8_first)] }
def ChiefActsSaid : Prop := chiefActsRow.holds Tryd.pinned (OpenSpec.ofChange chiefActsSpec)

/-- ITS FALSE NEIGHBOUR: 'it returns false'. Refute it at one input. -/
def chiefActsWrong : ChangeSpec := { name := "chiefActs", fn := fun _ => fun
  | [d1, d2, d3, d4] => { results := [.lit (.bool false)], args := [d1, d2, d3, d4] }
  | _ => none }
def ChiefActsWrongFalsely : Prop := chiefActsRow.holds Tryd.pinned (OpenSpec.ofChange chiefActsWrong)

/-- 'cloisterlaw.ViewSeen': WHATEVER THE INPUT: true; the input reads as it did. -/
def viewSeenSpec : ChangeSpec := { name := "viewSeen", fn := fun _ => fun
  | [d1, d2, d3, d4, d5] => { results := [.lit (.bool true)], args := [d1, d2, d3, d4, d5] }
  | _ => none }
def viewSeenRow : OpenClaim := { program := "ytfbieagkhbmgjaadoor", sum := "1bb171d4d6a3fa1b51de6e6a10bc862d62c65b071503efe7c2102d698eb0cf57", func := "cloister/cloisterlaw.ViewSeen", spec := "viewSeen", inPlace := ["internal/bytealg.IndexByteString", "internal/bytealg.IndexString"], unfollowed := true, recurses := true, named := ["internal/bytealg.MaxLen", "unicode/utf8.first", "unicode/utf8.acceptRanges"], plainKeys := false, apart := false, laid := [("unicode/utf8.acceptRanges", laid_unicode_utf8_acceptRanges), ("unicode/utf8.first", laid_unicode_utf8_first)] }
def ViewSeenSaid : Prop := viewSeenRow.holds Tryd.pinned (OpenSpec.ofChange viewSeenSpec)

/-- ITS FALSE NEIGHBOUR: 'it returns false'. Refute it at one input. -/
def viewSeenWrong : ChangeSpec := { name := "viewSeen", fn := fun _ => fun
  | [d1, d2, d3, d4, d5] => { results := [.lit (.bool false)], args := [d1, d2, d3, d4, d5] }
  | _ => none }
def ViewSeenWrongFalsely : Prop := viewSeenRow.holds Tryd.pinned (OpenSpec.ofChange viewSeenWrong)

/-- 'cloisterlaw.ViewAlike': WHATEVER THE INPUT: true; the input reads as it did. -/
def viewAlikeSpec : ChangeSpec := { name := "viewAlike", fn := fun _ => fun
  | [d1, d2, d3, d4, d5] => { results := [.lit (.bool true)], args := [d1, d2, d3, d4, d5] }
  | _ => none }
def viewAlikeRow : OpenClaim := { program := "ytfbieagkhbmgjaadoor", sum := "1bb171d4d6a3fa1b51de6e6a10bc862d62c65b071503efe7c2102d698eb0cf57", func := "cloister/cloisterlaw.ViewAlike", spec := "viewAlike", inPlace := ["internal/bytealg.IndexByteString", "internal/bytealg.IndexString"], unfollowed := true, recurses := true, named := ["internal/bytealg.MaxLen", "unicode/utf8.first", "unicode/utf8.acceptRanges"], loops := true, plainKeys := false, apart := false, laid := [("unicode/utf8.acceptRanges", laid_unicode_utf8_acceptRanges), ("unicode/utf8.first", laid_unicode_utf8_first)] }
def ViewAlikeSaid : Prop := viewAlikeRow.holds Tryd.pinned (OpenSpec.ofChange viewAlikeSpec)

/-- ITS FALSE NEIGHBOUR: 'it returns false'. Refute it at one input. -/
def viewAlikeWrong : ChangeSpec := { name := "viewAlike", fn := fun _ => fun
  | [d1, d2, d3, d4, d5] => { results := [.lit (.bool false)], args := [d1, d2, d3, d4, d5] }
  | _ => none }
def ViewAlikeWrongFalsely : Prop := viewAlikeRow.holds Tryd.pinned (OpenSpec.ofChange viewAlikeWrong)

/-- 'cloisterlaw.LabelFlows': WHATEVER THE INPUT: true; the input reads as it did. -/
def labelFlowsSpec : ChangeSpec := { name := "labelFlows", fn := fun _ => fun
  | [d1, d2, d3, d4] => { results := [.lit (.bool true)], args := [d1, d2, d3, d4] }
  | _ => none }
def labelFlowsRow : OpenClaim := { program := "ytfbieagkhbmgjaadoor", sum := "1bb171d4d6a3fa1b51de6e6a10bc862d62c65b071503efe7c2102d698eb0cf57", func := "cloister/cloisterlaw.LabelFlows", spec := "labelFlows", inPlace := ["internal/bytealg.IndexByteString", "internal/bytealg.IndexString", "internal/abi.NoEscape", "internal/bytealg.MakeNoZero"], unfollowed := true, recurses := true, named := ["internal/bytealg.MaxLen", "unicode/utf8.first", "unicode/utf8.acceptRanges"], plainKeys := false, apart := false, laid := [("unicode/utf8.acceptRanges", laid_unicode_utf8_acceptRanges), ("unicode/utf8.first", laid_unicode_utf8_first)] }
def LabelFlowsSaid : Prop := labelFlowsRow.holds Tryd.pinned (OpenSpec.ofChange labelFlowsSpec)

/-- ITS FALSE NEIGHBOUR: 'it returns false'. Refute it at one input. -/
def labelFlowsWrong : ChangeSpec := { name := "labelFlows", fn := fun _ => fun
  | [d1, d2, d3, d4] => { results := [.lit (.bool false)], args := [d1, d2, d3, d4] }
  | _ => none }
def LabelFlowsWrongFalsely : Prop := labelFlowsRow.holds Tryd.pinned (OpenSpec.ofChange labelFlowsWrong)

/- THE SECOND FORM. 'bulk': how many values and letters a reading holds, each counted each time it is reached (what is shared counts as often as it is met; a slice's spare places count too). A statement '..UptoSaid' is the law's where the arguments, and the package variables that the reading takes, are together of bulk at most 1048576: NARROWER than '..Said'. Prove '..Said' where nothing that the law and all that it calls make is longer than what came in: it says more and counts as full. Else prove '..UptoSaid'. A law counts once. -/
mutual
def uptoBulk {H : Type} : DataW H → Nat
  | .lit (.string bytes) => bytes.length + 1
  | .lit _ => 1
  | .nil => 1
  | .ptr d => uptoBulk d + 1
  | .slice elems spare => uptoBulkAll elems + uptoBulkAll spare + 1
  | .agg parts => uptoBulkAll parts + 1
  | .iface _ d => uptoBulk d + 1
  | .map entries => uptoBulkEntries entries + 1
  | .held _ => 1
def uptoBulkAll {H : Type} : List (DataW H) → Nat
  | [] => 0
  | d :: r => uptoBulk d + uptoBulkAll r
def uptoBulkEntries {H : Type} : List (Lit × DataW H) → Nat
  | [] => 0
  | x :: r => uptoBulkEntry x + uptoBulkEntries r
def uptoBulkEntry {H : Type} : Lit × DataW H → Nat
  | (.string bytes, d) => bytes.length + uptoBulk d + 1
  | (_, d) => uptoBulk d + 1
 end
def uptoSmall : (H : Type) → List (DataW H) → Bool := fun _ ds => decide (uptoBulkAll ds ≤ 1048576)
def OpenSpec.upto (s : _root_.Go.ChangeSpec) : _root_.Go.OpenSpec := { _root_.Go.OpenSpec.ofChange s with cond := some uptoSmall }

/-- 'cloisterlaw.ChiefLeast', WHERE WHAT IT READS IS OF BULK AT MOST 1048576: true; the input reads as it did. -/
def chiefLeastUptoRow : OpenClaim := { program := "ytfbieagkhbmgjaadoor", sum := "1bb171d4d6a3fa1b51de6e6a10bc862d62c65b071503efe7c2102d698eb0cf57", func := "cloister/cloisterlaw.ChiefLeast", spec := "chiefLeast", inPlace := ["internal/bytealg.IndexByteString", "internal/bytealg.IndexString"], unfollowed := true, recurses := true, named := ["internal/bytealg.MaxLen", "unicode/utf8.first", "unicode/utf8.acceptRanges"], plainKeys := false, apart := false, laid := [("unicode/utf8.acceptRanges", laid_unicode_utf8_acceptRanges), ("unicode/utf8.first", laid_unicode_utf8_first)], narrowed := true }
def ChiefLeastUptoSaid : Prop := chiefLeastUptoRow.holds Tryd.pinned (OpenSpec.upto chiefLeastSpec)

/-- 'cloisterlaw.ChiefActs', WHERE WHAT IT READS IS OF BULK AT MOST 1048576: true; the input reads as it did. -/
def chiefActsUptoRow : OpenClaim := { program := "ytfbieagkhbmgjaadoor", sum := "1bb171d4d6a3fa1b51de6e6a10bc862d62c65b071503efe7c2102d698eb0cf57", func := "cloister/cloisterlaw.ChiefActs", spec := "chiefActs", inPlace := ["internal/bytealg.IndexByteString", "internal/bytealg.IndexString"], named := ["internal/bytealg.MaxLen", "unicode/utf8.first", "unicode/utf8.acceptRanges"], plainKeys := false, apart := false, laid := [("unicode/utf8.acceptRanges", laid_unicode_utf8_acceptRanges), ("unicode/utf8.first", laid_unicode_utf8_first)], narrowed := true }
def ChiefActsUptoSaid : Prop := chiefActsUptoRow.holds Tryd.pinned (OpenSpec.upto chiefActsSpec)

/-- 'cloisterlaw.ViewSeen', WHERE WHAT IT READS IS OF BULK AT MOST 1048576: true; the input reads as it did. -/
def viewSeenUptoRow : OpenClaim := { program := "ytfbieagkhbmgjaadoor", sum := "1bb171d4d6a3fa1b51de6e6a10bc862d62c65b071503efe7c2102d698eb0cf57", func := "cloister/cloisterlaw.ViewSeen", spec := "viewSeen", inPlace := ["internal/bytealg.IndexByteString", "internal/bytealg.IndexString"], unfollowed := true, recurses := true, named := ["internal/bytealg.MaxLen", "unicode/utf8.first", "unicode/utf8.acceptRanges"], plainKeys := false, apart := false, laid := [("unicode/utf8.acceptRanges", laid_unicode_utf8_acceptRanges), ("unicode/utf8.first", laid_unicode_utf8_first)], narrowed := true }
def ViewSeenUptoSaid : Prop := viewSeenUptoRow.holds Tryd.pinned (OpenSpec.upto viewSeenSpec)

/-- 'cloisterlaw.ViewAlike', WHERE WHAT IT READS IS OF BULK AT MOST 1048576: true; the input reads as it did. -/
def viewAlikeUptoRow : OpenClaim := { program := "ytfbieagkhbmgjaadoor", sum := "1bb171d4d6a3fa1b51de6e6a10bc862d62c65b071503efe7c2102d698eb0cf57", func := "cloister/cloisterlaw.ViewAlike", spec := "viewAlike", inPlace := ["internal/bytealg.IndexByteString", "internal/bytealg.IndexString"], unfollowed := true, recurses := true, named := ["internal/bytealg.MaxLen", "unicode/utf8.first", "unicode/utf8.acceptRanges"], loops := true, plainKeys := false, apart := false, laid := [("unicode/utf8.acceptRanges", laid_unicode_utf8_acceptRanges), ("unicode/utf8.first", laid_unicode_utf8_first)], narrowed := true }
def ViewAlikeUptoSaid : Prop := viewAlikeUptoRow.holds Tryd.pinned (OpenSpec.upto viewAlikeSpec)

/-- 'cloisterlaw.LabelFlows', WHERE WHAT IT READS IS OF BULK AT MOST 1048576: true; the input reads as it did. -/
def labelFlowsUptoRow : OpenClaim := { program := "ytfbieagkhbmgjaadoor", sum := "1bb171d4d6a3fa1b51de6e6a10bc862d62c65b071503efe7c2102d698eb0cf57", func := "cloister/cloisterlaw.LabelFlows", spec := "labelFlows", inPlace := ["internal/bytealg.IndexByteString", "internal/bytealg.IndexString", "internal/abi.NoEscape", "internal/bytealg.MakeNoZero"], unfollowed := true, recurses := true, named := ["internal/bytealg.MaxLen", "unicode/utf8.first", "unicode/utf8.acceptRanges"], plainKeys := false, apart := false, laid := [("unicode/utf8.acceptRanges", laid_unicode_utf8_acceptRanges), ("unicode/utf8.first", laid_unicode_utf8_first)], narrowed := true }
def LabelFlowsUptoSaid : Prop := labelFlowsUptoRow.holds Tryd.pinned (OpenSpec.upto labelFlowsSpec)

end Rows
end Go.Proofs.YtfbieagkhbmgjaaDoor
