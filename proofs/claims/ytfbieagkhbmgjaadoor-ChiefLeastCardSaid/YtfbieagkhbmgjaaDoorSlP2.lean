/-
  slices.Clone and Delete over pairs of texts.
-/
import Derived.Test.YtfbieagkhbmgjaaDoorSlP
import Derived.Test.YtfbieagkhbmgjaaDoorLeast
import Derived.Lib.SliceRun
import Derived.Laws.OwnMore
import Derived.Lib.AppendZeros
namespace Go.Proofs.YtfbieagkhbmgjaaDoor
open Go.RowKit
set_option linter.unusedVariables false
set_option linter.unusedSimpArgs false

theorem pairs_at : ∀ (l : List (Txt × Txt)) (i : Nat) (h : i < l.length), (l.flatMap pairCells)[i * 2]? = some (.string l[i].1) ∧ (l.flatMap pairCells)[i * 2 + 1]? = some (.string l[i].2)
  | [], i, h => absurd h (by simp)
  | x :: l, 0, _ => by simp [pairCells]
  | x :: l, i + 1, h => by
    have := pairs_at l i (by simpa using h)
    have e1 : (i + 1) * 2 = i * 2 + 1 + 1 := by omega
    have e2 : (i + 1) * 2 + 1 = i * 2 + 1 + 1 + 1 := by omega
    rw [e2, e1]
    simpa [pairCells] using this
theorem pairs_length (l : List (Txt × Txt)) : (l.flatMap pairCells).length = l.length * 2 := by
  induction l with
  | nil => rfl
  | cons x l ih => simp [pairCells, ih]; omega
/-- The cells of a slice of pairs, one behind the other. -/
theorem Prs.flat {w : World} {l : List (Txt × Txt)} {v : Value} (h : Prs w l v) : ∃ b o c p, v = .slice p l.length c ∧ l.length ≤ c ∧ c ≤ 9223372036854775807 ∧ (0 < l.length → p = some ⟨b, o, none⟩) ∧
    ∀ (j : Nat) (u : Value), (l.flatMap pairCells)[j]? = some u → w.cell? ⟨b, o + j, none⟩ = some u := by
  obtain ⟨b, o, c, p, h1, h2, h3, h4, h5⟩ := h.cells
  refine ⟨b, o, c, p, h1, h2, h3, h4, fun j u hu => ?_⟩
  have hj : j < l.length * 2 := by rw [← pairs_length]; exact (List.getElem?_eq_some_iff.1 hu).1
  have hi : j / 2 < l.length := by omega
  obtain ⟨g1, g2⟩ := h5 (j / 2) hi
  obtain ⟨k1, k2⟩ := pairs_at l (j / 2) hi
  rcases Nat.mod_two_eq_zero_or_one j with e | e
  · have ej : j / 2 * 2 = j := by omega
    rw [ej] at g1 k1
    rw [k1] at hu
    cases hu
    exact g1
  · have ej : j / 2 * 2 + 1 = j := by omega
    rw [ej] at k2
    have ej' : o + j / 2 * 2 + 1 = o + j := by omega
    rw [ej'] at g2
    rw [k2] at hu
    cases hu
    exact g2
theorem pairs_one (l : List (Txt × Txt)) : ∀ u ∈ l.flatMap pairCells, u.oneCell' = true := by
  intro u hu
  rw [List.mem_flatMap] at hu
  obtain ⟨x, _, hx⟩ := hu
  simp [pairCells] at hx
  rcases hx with rfl | rfl <;> rfl

end Go.Proofs.YtfbieagkhbmgjaaDoor
