/-
  DERIVED. GIVEN WITH THE SEED: THE CARDS: each row of YtfbieagkhbmgjaaDoorRows.lean that lists a variable, with what it lists TIED to the program's text (the seventh form; the later family's looks); each row that meets fmt, with fmt's text TOLD by the authors' own Lean function (tested against real Go, not proved from fmt's source: count such statements apart). THE CARD IS WHAT COUNTS. Prove the row's statement (the work); the ties are given (YtfbieagkhbmgjaaDoorTie.lean); close each card by the builder's one call (the guide's Derived/Test/ToyasCard.lean, 'card_holds'). Laid BY PROGRAM, IN A SANDBOX (cutbox-door.mjs). By AI agents, Wed Nov 11 2026. No macro, syntax, notation, axiom, sorry.
-/
import Derived.Test.YtfbieagkhbmgjaaDoorRows
import GoSem.ClaimSeven
namespace Go.Proofs.YtfbieagkhbmgjaaDoor
namespace Rows

/-- THE TIED CARD OF 'cloisterlaw.ChiefLeast'. -/
def chiefLeastCard : Claim7 := { stood := { row := chiefLeastRow, standIns := [], harness := (true, "29f86953b7e993dc78ae14f15961d6cf43905aac8522950f1582816168103685"), looks := false }, kinds := [], alts := [], laidByText := true, laidKinds := [.data, .pinned], laidTests := true, laidLooks := .later }
def ChiefLeastCardSaid : Prop := Claim7.holds Tryd.pinned (.plain (OpenSpec.ofChange chiefLeastSpec)) chiefLeastCard

/-- THE TIED CARD OF 'cloisterlaw.ChiefActs'. -/
def chiefActsCard : Claim7 := { stood := { row := chiefActsRow, standIns := [], harness := (true, "29f86953b7e993dc78ae14f15961d6cf43905aac8522950f1582816168103685"), looks := false }, kinds := [], alts := [], laidByText := true, laidKinds := [.data, .pinned], laidTests := true, laidLooks := .later }
def ChiefActsCardSaid : Prop := Claim7.holds Tryd.pinned (.plain (OpenSpec.ofChange chiefActsSpec)) chiefActsCard

/-- THE TIED CARD OF 'cloisterlaw.ViewSeen'. -/
def viewSeenCard : Claim7 := { stood := { row := viewSeenRow, standIns := [], harness := (true, "29f86953b7e993dc78ae14f15961d6cf43905aac8522950f1582816168103685"), looks := false }, kinds := [], alts := [], laidByText := true, laidKinds := [.data, .pinned], laidTests := true, laidLooks := .later }
def ViewSeenCardSaid : Prop := Claim7.holds Tryd.pinned (.plain (OpenSpec.ofChange viewSeenSpec)) viewSeenCard

/-- THE TIED CARD OF 'cloisterlaw.ViewAlike'. -/
def viewAlikeCard : Claim7 := { stood := { row := viewAlikeRow, standIns := [], harness := (true, "29f86953b7e993dc78ae14f15961d6cf43905aac8522950f1582816168103685"), looks := false }, kinds := [], alts := [], laidByText := true, laidKinds := [.data, .pinned], laidTests := true, laidLooks := .later }
def ViewAlikeCardSaid : Prop := Claim7.holds Tryd.pinned (.plain (OpenSpec.ofChange viewAlikeSpec)) viewAlikeCard

/-- THE TIED CARD OF 'cloisterlaw.LabelFlows'. -/
def labelFlowsCard : Claim7 := { stood := { row := labelFlowsRow, standIns := [], harness := (true, "29f86953b7e993dc78ae14f15961d6cf43905aac8522950f1582816168103685"), looks := false }, kinds := [], alts := [], laidByText := true, laidKinds := [.data, .pinned], laidTests := true, laidLooks := .later }
def LabelFlowsCardSaid : Prop := Claim7.holds Tryd.pinned (.plain (OpenSpec.ofChange labelFlowsSpec)) labelFlowsCard

/-- THE SECOND FORM's CARD OF 'cloisterlaw.ChiefLeast'. -/
def chiefLeastUptoCard : Claim7 := { stood := { row := chiefLeastUptoRow, standIns := [], harness := (true, "29f86953b7e993dc78ae14f15961d6cf43905aac8522950f1582816168103685"), looks := false }, kinds := [], alts := [], laidByText := true, laidKinds := [.data, .pinned], laidTests := true, laidLooks := .later }
def ChiefLeastUptoCardSaid : Prop := Claim7.holds Tryd.pinned (.plain (OpenSpec.upto chiefLeastSpec)) chiefLeastUptoCard

/-- THE SECOND FORM's CARD OF 'cloisterlaw.ChiefActs'. -/
def chiefActsUptoCard : Claim7 := { stood := { row := chiefActsUptoRow, standIns := [], harness := (true, "29f86953b7e993dc78ae14f15961d6cf43905aac8522950f1582816168103685"), looks := false }, kinds := [], alts := [], laidByText := true, laidKinds := [.data, .pinned], laidTests := true, laidLooks := .later }
def ChiefActsUptoCardSaid : Prop := Claim7.holds Tryd.pinned (.plain (OpenSpec.upto chiefActsSpec)) chiefActsUptoCard

/-- THE SECOND FORM's CARD OF 'cloisterlaw.ViewSeen'. -/
def viewSeenUptoCard : Claim7 := { stood := { row := viewSeenUptoRow, standIns := [], harness := (true, "29f86953b7e993dc78ae14f15961d6cf43905aac8522950f1582816168103685"), looks := false }, kinds := [], alts := [], laidByText := true, laidKinds := [.data, .pinned], laidTests := true, laidLooks := .later }
def ViewSeenUptoCardSaid : Prop := Claim7.holds Tryd.pinned (.plain (OpenSpec.upto viewSeenSpec)) viewSeenUptoCard

/-- THE SECOND FORM's CARD OF 'cloisterlaw.ViewAlike'. -/
def viewAlikeUptoCard : Claim7 := { stood := { row := viewAlikeUptoRow, standIns := [], harness := (true, "29f86953b7e993dc78ae14f15961d6cf43905aac8522950f1582816168103685"), looks := false }, kinds := [], alts := [], laidByText := true, laidKinds := [.data, .pinned], laidTests := true, laidLooks := .later }
def ViewAlikeUptoCardSaid : Prop := Claim7.holds Tryd.pinned (.plain (OpenSpec.upto viewAlikeSpec)) viewAlikeUptoCard

/-- THE SECOND FORM's CARD OF 'cloisterlaw.LabelFlows'. -/
def labelFlowsUptoCard : Claim7 := { stood := { row := labelFlowsUptoRow, standIns := [], harness := (true, "29f86953b7e993dc78ae14f15961d6cf43905aac8522950f1582816168103685"), looks := false }, kinds := [], alts := [], laidByText := true, laidKinds := [.data, .pinned], laidTests := true, laidLooks := .later }
def LabelFlowsUptoCardSaid : Prop := Claim7.holds Tryd.pinned (.plain (OpenSpec.upto labelFlowsSpec)) labelFlowsUptoCard
end Rows
end Go.Proofs.YtfbieagkhbmgjaaDoor
