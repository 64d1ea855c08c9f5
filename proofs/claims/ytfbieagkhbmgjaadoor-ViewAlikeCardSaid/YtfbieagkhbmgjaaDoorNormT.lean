/-
  Plain law: normal forms step by step.
-/
import Derived.Test.YtfbieagkhbmgjaaDoorNormP
namespace Go.Proofs.YtfbieagkhbmgjaaDoor
open Go.RowKit
set_option linter.unusedVariables false
set_option linter.unusedSimpArgs false

def killAt (q : Txt → Txt → Bool) (X : Lab) (i k : Nat) : Bool := match X[k]?, X[i]? with
  | some p, some x => decide (i ≠ k) && (coversB q p x && (decide (k < i) || !coversB q x p))
  | _, _ => false
/-- Is there one of the first so many for which it goes? -/
def goneTo (q : Txt → Txt → Bool) (X : Lab) (i k : Nat) : Bool := (List.range k).any (killAt q X i)
theorem goneTo_zero (q : Txt → Txt → Bool) (X : Lab) (i : Nat) : goneTo q X i 0 = false := rfl
theorem goneTo_succ (q : Txt → Txt → Bool) (X : Lab) (i k : Nat) : goneTo q X i (k + 1) = (goneTo q X i k || killAt q X i k) := by
  unfold goneTo
  rw [List.range_succ, List.any_append]
  simp
theorem killAt_eq (q : Txt → Txt → Bool) {X : Lab} {i k : Nat} (hi : i < X.length) (hk : k < X.length) : killAt q X i k = (decide (i ≠ k) && (coversB q X[k] X[i] && (decide (k < i) || !coversB q X[i] X[k]))) := by
  unfold killAt
  rw [List.getElem?_eq_getElem hi, List.getElem?_eq_getElem hk]
theorem rising_lt {α : Type} {f : α → α → Int} (hf : Tot f) {X : List α} (h : Rising f X) {i k : Nat} (hi : i < X.length) (hk : k < X.length) : f X[k] X[i] < 0 ↔ k < i := by
  have hp := List.pairwise_iff_getElem.1 h
  constructor
  · intro h1
    apply Decidable.byContradiction
    intro hn
    by_cases e : i = k
    · subst e
      rw [hf.self] at h1; omega
    · have h2 := hp i k hi hk (by omega)
      have := hf.anti X[i] X[k]
      omega
  · exact fun hlt => hp k i hk hi hlt
theorem rising_ne {α : Type} {f : α → α → Int} (hf : Tot f) {X : List α} (h : Rising f X) {i k : Nat} (hi : i < X.length) (hk : k < X.length) : X[k] ≠ X[i] ↔ i ≠ k := by
  constructor
  · rintro h1 rfl; exact h1 rfl
  · intro h1 e
    have h2 := rising_lt hf h hi hk
    have h3 := rising_lt hf h hk hi
    rw [e] at h2 h3
    rw [hf.self] at h2 h3
    omega
theorem goneTo_all (q : Txt → Txt → Bool) {X : Lab} (h : Rising cmpPol X) {i : Nat} (hi : i < X.length) : goneTo q X i X.length = goneB q X X[i] := by
  rw [Bool.eq_iff_iff]
  unfold goneTo goneB
  rw [List.any_eq_true, List.any_eq_true]
  constructor
  · rintro ⟨k, hk, e⟩
    have hk' := List.mem_range.1 hk
    rw [killAt_eq q hi hk'] at e
    refine ⟨X[k], List.getElem_mem hk', ?_⟩
    have h1 := rising_ne cmpPol_tot h hi hk'
    have h2 := rising_lt cmpPol_tot h hi hk'
    simp only [Bool.and_eq_true, Bool.or_eq_true, decide_eq_true_eq] at e ⊢
    exact ⟨⟨h1.2 e.1, e.2.1⟩, e.2.2.imp h2.2 id⟩
  · rintro ⟨p, hp, e⟩
    obtain ⟨k, hk', rfl⟩ := List.getElem_of_mem hp
    refine ⟨k, List.mem_range.2 hk', ?_⟩
    rw [killAt_eq q hi hk']
    have h1 := rising_ne cmpPol_tot h hi hk'
    have h2 := rising_lt cmpPol_tot h hi hk'
    simp only [Bool.and_eq_true, Bool.or_eq_true, decide_eq_true_eq] at e ⊢
    exact ⟨h1.1 e.1.1, e.1.2, e.2.imp h2.1 id⟩
def outTo (q : Txt → Txt → Bool) (X : Lab) (i : Nat) : Lab := (X.take i).filter fun x => !goneB q X x
theorem outTo_hit {q : Txt → Txt → Bool} {X : Lab} {i : Nat} (hi : i < X.length) (h : goneB q X X[i] = false) : outTo q X (i + 1) = outTo q X i ++ [X[i]] := by
  unfold outTo
  rw [List.take_succ_eq_append_getElem hi, List.filter_append]
  simp [h]
theorem outTo_miss {q : Txt → Txt → Bool} {X : Lab} {i : Nat} (hi : i < X.length) (h : goneB q X X[i] = true) : outTo q X (i + 1) = outTo q X i := by
  unfold outTo
  rw [List.take_succ_eq_append_getElem hi, List.filter_append]
  simp [h]
theorem outTo_le (q : Txt → Txt → Bool) (X : Lab) (i : Nat) : (outTo q X i).length ≤ i := by
  unfold outTo
  have := List.length_filter_le (fun x => !goneB q X x) (X.take i)
  rw [List.length_take] at this
  omega
theorem outTo_all (q : Txt → Txt → Bool) (l : Lab) : outTo q (allOf l) (allOf l).length = normL q l := by
  unfold outTo normL normOf
  rw [List.take_length]
/-- Sorted, each once, however sorted. -/
theorem sorted_all {l : Lab} {d : Lab} (hp : d.Perm (l.map plainP)) (hu : d.Pairwise fun x y => cmpPol x y ≤ 0) : dedup d = allOf l := by
  have : d = srt cmpPol (l.map plainP) := cmpPol_tot.unique (hp.trans (srt_perm _ _).symm) hu (cmpPol_tot.srt_up _)
  rw [this]; rfl
theorem okPol_plain {p : Pol} (h : okPol p) : okPol (plainP p) := ⟨h.1, fun s hs => h.2 s (mem_plainR.1 hs).1⟩
theorem okLab_all {l : Lab} (h : okLab l) : okLab (allOf l) := fun p hp => by
  obtain ⟨x, hx, rfl⟩ := mem_allOf.1 hp
  exact okPol_plain (h x hx)
theorem okLab_norm {q : Txt → Txt → Bool} {l : Lab} (h : okLab l) : okLab (normL q l) := fun p hp => okLab_all h p ((norm_sub q l).subset hp)
theorem allOf_le (l : Lab) : (allOf l).length ≤ l.length := by
  have h1 : ∀ (d : Lab), (dedup d).length ≤ d.length := by
    have : ∀ (p : Pol) (l : Lab), (dedupFrom p l).length ≤ l.length := by
      intro p l
      induction l generalizing p with
      | nil => exact Nat.le_refl _
      | cons x l ih =>
        unfold dedupFrom
        split
        · have := ih p; simp; omega
        · have := ih x; simp; omega
    intro d
    cases d with
    | nil => exact Nat.le_refl _
    | cons x d => have := this x d; show (x :: dedupFrom x d).length ≤ _; simp; exact this
  have h2 := h1 (srt cmpPol (l.map plainP))
  have h3 := (srt_perm cmpPol (l.map plainP)).length_eq
  rw [h3, List.length_map] at h2
  exact h2
end Go.Proofs.YtfbieagkhbmgjaaDoor
