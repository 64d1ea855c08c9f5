/-
  Equal lists, element by element; worlds but for answers drawn.
-/
import Derived.Test.YtdkclmkljcnmiaaDoorScanA
namespace Go.Proofs.YtdkclmkljcnmiaaDoor
open Go.RowKit
set_option linter.unusedVariables false
set_option linter.unusedSimpArgs false

/-- `[]int`. -/
abbrev Nums (w : World) (l : List Int) (v : Value) : Prop := SliceOf num 1 w l v
theorem Nums.stays {w w' : World} (hk : Keeps w w') {l : List Int} {v : Value} (h : Nums w l v) : Nums w' l v := SliceOf.stays (One.stays _) hk h
/-- A slice of data of one cell each, opened: its length, its room; its cells. -/
theorem One.cells {α : Type} {f : α → Value} {w : World} {l : List α} {v : Value} (h : SliceOf (One f) 1 w l v) :
    ∃ b o c p, v = .slice p l.length c ∧ l.length ≤ c ∧ c ≤ 9223372036854775807 ∧ (0 < l.length → p = some ⟨b, o, none⟩) ∧ ∀ (i : Nat) (h : i < l.length), w.cell? ⟨b, o + i, none⟩ = some (f l[i]) := by
  obtain ⟨p, c, e, h1, h2, h3⟩ := h
  unfold maxLen at h2
  rcases h3 with rfl | ⟨b, o, hp, h3⟩
  · exact ⟨0, 0, c, p, e, h1, by omega, fun h => absurd h (by simp), fun i h => absurd h (by simp)⟩
  · refine ⟨b, o, c, p, e, h1, by omega, fun _ => hp, fun i hi => ?_⟩
    obtain ⟨vs, g1, g2, g3⟩ := h3 i hi
    have := g3 0 (f l[i]) (by rw [g1]; rfl)
    simpa using this

theorem eq_len {α : Type} [BEq α] {l m : List α} (h : l.length ≠ m.length) : (l == m) = false := by
  induction l generalizing m with
  | nil => cases m with
    | nil => simp at h
    | cons y m => rfl
  | cons x l ih => cases m with
    | nil => rfl
    | cons y m =>
      have : (l == m) = false := ih (by simpa using h)
      show (x == y && l == m) = false
      rw [this]; simp
theorem eq_at {α : Type} [BEq α] [LawfulBEq α] {l m : List α} {k : Nat} (h1 : k < l.length) (h2 : k < m.length) (h : (l[k] == m[k]) = false) : (l == m) = false := by
  rw [beq_eq_false_iff_ne]
  rintro rfl
  simp at h
theorem eq_all {α : Type} [BEq α] [LawfulBEq α] {l m : List α} (hn : l.length = m.length) (h : ∀ j (h1 : j < l.length) (h2 : j < m.length), (l[j] == m[j]) = true) : (l == m) = true := by
  rw [beq_iff_eq]
  exact List.ext_getElem hn fun j h1 h2 => by simpa using h j h1 h2

theorem below_drewN {B : Nat} {a w : World} (h : Below B a w) (n : Nat) : Below B a (w.drewN n) := ⟨h.os, h.tape, h.output, h.size, h.block⟩
/-- The world is the old one, but for answers drawn. -/
def Quiet (w w' : World) : Prop := ∃ n, w' = w.drewN n
theorem Quiet.below {w w' : World} (h : Quiet w w') : Below w.heap.size w w' := by
  obtain ⟨n, rfl⟩ := h
  have h := Below.refl w.heap.size w
  exact ⟨h.os, h.tape, h.output, h.size, h.block⟩

end Go.Proofs.YtdkclmkljcnmiaaDoor
