/-
  Texts put together: strings.Join.
-/
import Derived.Test.YtdkclmkljcnmiaaDoorShelf
import Derived.Test.YtdkclmkljcnmiaaDoorData
namespace Go.Proofs.YtdkclmkljcnmiaaDoor
open Go.RowKit
set_option linter.unusedVariables false
set_option linter.unusedSimpArgs false

def bytesT (l : List UInt8) : Txt := ⟨l.toArray⟩
/-- Texts with one between each two. -/
def joinT (l : List Txt) (sep : Txt) : Txt := bytesT (Lib.join (l.map (·.data.toList)) sep.data.toList)
theorem join_calls (l : List Txt) (sep : Txt) (v : Value) (w : World) (h : Strs w l v) (hl : (Lib.join (l.map (·.data.toList)) sep.data.toList).length ≤ 140737488355328) (hn : l.length ≤ 140737488355328) :
    Calls Tryd.prog 39 #[v, .string sep] w fun e w' => e = .returned (.string (joinT l sep)) ∧ Below w.heap.size w w' := by
  obtain ⟨b, o, c, p, rfl, hlc, hc, hp, hcells⟩ := h.cells
  by_cases h0 : l.length = 0
  · have e : l = [] := List.length_eq_zero_iff.1 h0
    subst e
    refine (Tryd.strings_Join_none p c sep w).mono ?_
    rintro e w' ⟨rfl, rfl⟩
    exact ⟨rfl, Below.refl _ _⟩
  · obtain rfl := hp (by omega)
    exact Tryd.strings_Join b o c l sep w (fun j x hx => by
      obtain ⟨hj, rfl⟩ := List.getElem?_eq_some_iff.1 hx
      exact hcells j hj) (cell_lt (hcells 0 (by omega))) hn hlc hl
end Go.Proofs.YtdkclmkljcnmiaaDoor
