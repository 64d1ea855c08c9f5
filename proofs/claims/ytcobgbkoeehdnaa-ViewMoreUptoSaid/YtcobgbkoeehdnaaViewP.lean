/-
  Plain laws on what is seen.
-/
import Derived.Test.YtcobgbkoeehdnaaViewed
import Derived.Test.YtcobgbkoeehdnaaLabP
namespace Go.Proofs.Ytcobgbkoeehdnaa
set_option linter.unusedVariables false
set_option linter.unusedSimpArgs false

theorem seesE_zero {l : List Txt} {acts : List (Txt × Txt)} {who : Txt} {x : Lab} (h : seesE l acts who x = 0) : labE l acts x = 0 ∧ has l who = true := by
  unfold seesE at h
  by_cases h1 : labE l acts x = 0
  · rw [if_neg (by omega)] at h
    refine ⟨h1, ?_⟩
    cases e : has l who with
    | true => rfl
    | false => rw [e] at h; simp at h
  · rw [if_pos h1] at h; exact absurd h h1
theorem evErr_zero {l : List Txt} {acts : List (Txt × Txt)} {who : Txt} {x : List Evt} (h : evErr l acts who x = 0) : ∀ e ∈ x, seesE l acts who e.2.2 = 0 := by
  unfold evErr at h
  cases hf : x.find? (fun e => seesE l acts who e.2.2 != 0) with
  | none =>
    rw [List.find?_eq_none] at hf
    intro e he
    have := hf e he
    simpa using this
  | some e =>
    rw [hf] at h
    have h1 := List.find?_some hf
    have h2 : seesE l acts who e.2.2 = 0 := h
    rw [h2] at h1
    simp at h1
theorem seenE_zero {l : List Txt} {acts : List (Txt × Txt)} {who : Txt} {x : List Evt} (h : seenE l acts who x = 0) :
    x.length ≤ 3000 ∧ has l who = true ∧ checkC l acts = 0 ∧ (∀ e ∈ x, seesE l acts who e.2.2 = 0) ∧ seenR l acts who x = (x.filter fun e => seesB l acts who e.2.2).map bareEv := by
  have hr : seenR l acts who x = (x.filter fun e => seesB l acts who e.2.2).map bareEv := by
    unfold seenR; rw [if_pos h]; unfold seenTo; rw [List.take_length]
  unfold seenE at h
  by_cases h1 : 3000 < x.length
  · rw [if_pos h1] at h; exact absurd h (by decide)
  · rw [if_neg h1] at h
    by_cases h2 : seesE l acts who [] = 0
    · rw [if_neg (by omega)] at h
      obtain ⟨h3, h4⟩ := seesE_zero h2
      exact ⟨by omega, h4, (labE_check h3).1, evErr_zero h, hr⟩
    · rw [if_pos h2] at h; exact absurd h h2
theorem sees_more {l : List Txt} {acts more : List (Txt × Txt)} {who : Txt} {x : Lab} (h1 : seesE l acts who x = 0) (h2 : seesE l (acts ++ more) who x = 0) (h : seesB l acts who x = true) : seesB l (acts ++ more) who x = true := by
  unfold seesB at *
  rw [h1] at h
  rw [h2]
  have h' : has (readsR l acts x) who = true := by simpa using h
  have : has (readsR l (acts ++ more) x) who = true := by
    rw [has_iff] at *
    unfold readsR at *
    rw [if_pos (seesE_zero h1).1] at h'
    rw [if_pos (seesE_zero h2).1]
    unfold readsL at *
    rw [List.mem_filter] at *
    refine ⟨h'.1, ?_⟩
    have h3 := h'.2
    rw [notAny_iff] at *
    exact fun p hp => lets_mono (fun _ _ => may_more) (h3 p hp)
  rw [this]; rfl
theorem sees_all {l : List Txt} {acts : List (Txt × Txt)} {who : Txt} {x : Lab} (h1 : seesE l acts who x = 0) (h : ∀ j (hj : j < l.length), actsB l acts who l[j] = true) : seesB l acts who x = true := by
  obtain ⟨h2, h3⟩ := seesE_zero h1
  have : has (readsR l acts x) who = true := by
    rw [has_iff]
    unfold readsR
    rw [if_pos h2]
    unfold readsL
    rw [List.mem_filter]
    refine ⟨has_iff.1 h3, ?_⟩
    rw [notAny_iff]
    intro p hp
    obtain ⟨_, g⟩ := labErr_zero (labE_check h2).2
    obtain ⟨_, g1, _⟩ := g p hp
    obtain ⟨j, hj, e⟩ := List.getElem_of_mem (has_iff.1 g1)
    have ha := h j hj
    rw [e] at ha
    unfold actsB at ha
    rw [Bool.and_eq_true] at ha
    exact lets_iff.2 (.inl (may_iff.2 ⟨g1, h3, ha.2⟩))
  unfold seesB
  rw [h1, this]; rfl
theorem filter_less {α : Type} {p q : α → Bool} : ∀ {l : List α}, (∀ x ∈ l, p x = true → q x = true) → (l.filter p).Sublist (l.filter q)
  | [], _ => .slnil
  | x :: l, h => by
    have ih := filter_less (l := l) fun y hy => h y (List.mem_cons_of_mem _ hy)
    cases hp : p x with
    | true =>
      have hq := h x List.mem_cons_self hp
      rw [List.filter_cons_of_pos hp, List.filter_cons_of_pos hq]
      exact ih.cons_cons x
    | false =>
      rw [List.filter_cons_of_neg (by rw [hp]; simp)]
      cases hq : q x with
      | true => rw [List.filter_cons_of_pos hq]; exact ih.cons x
      | false => rw [List.filter_cons_of_neg (by rw [hq]; simp)]; exact ih
theorem view_less {l : List Txt} {acts more : List (Txt × Txt)} {who : Txt} {x : List Evt} (h1 : seenE l acts who x = 0) (h2 : seenE l (acts ++ more) who x = 0) : (seenR l acts who x).Sublist (seenR l (acts ++ more) who x) := by
  obtain ⟨_, _, _, g1, e1⟩ := seenE_zero h1
  obtain ⟨_, _, _, g2, e2⟩ := seenE_zero h2
  rw [e1, e2]
  exact (filter_less fun e he h => sees_more (g1 e he) (g2 e he) h).map bareEv
theorem view_len {l : List Txt} {acts : List (Txt × Txt)} {who : Txt} {x : List Evt} : (seenR l acts who x).length ≤ x.length := by
  unfold seenR
  split
  · unfold seenTo; rw [List.length_map, List.take_length]; exact List.length_filter_le _ _
  · simp
theorem view_all {l : List Txt} {acts : List (Txt × Txt)} {who : Txt} {x : List Evt} (h1 : seenE l acts who x = 0) (h : ∀ j (hj : j < l.length), actsB l acts who l[j] = true) : (seenR l acts who x).length = x.length := by
  obtain ⟨_, _, _, g1, e1⟩ := seenE_zero h1
  rw [e1, List.length_map, List.filter_eq_self.2 fun e he => sees_all (g1 e he) h]
theorem view_bare {l : List Txt} {acts : List (Txt × Txt)} {who : Txt} {x : List Evt} : ∀ e ∈ seenR l acts who x, e.2.2 = [] := by
  intro e he
  unfold seenR at he
  split at he
  · unfold seenTo at he
    rw [List.mem_map] at he
    obtain ⟨y, _, rfl⟩ := he
    rfl
  · simp at he
/-- The pointer goes on. -/
theorem sub_hit {a b : List Evt} {k j : Nat} (hk : k < a.length) (hj : j < b.length) (ha : ∀ e ∈ a, e.2.2 = []) (hb : ∀ e ∈ b, e.2.2 = []) (h : (a.drop k).Sublist (b.drop j)) (he : alikeE a[k] b[j] = true) : (a.drop (k + 1)).Sublist (b.drop (j + 1)) := by
  have e : a[k] = b[j] := by
    unfold alikeE at he
    rw [Bool.and_eq_true, beq_iff_eq, beq_iff_eq] at he
    have h1 := ha _ (List.getElem_mem hk)
    have h2 := hb _ (List.getElem_mem hj)
    exact Prod.ext he.1 (Prod.ext he.2 (by rw [h1, h2]))
  rw [List.drop_eq_getElem_cons hk, List.drop_eq_getElem_cons hj, e] at h
  exact List.cons_sublist_cons.1 h
theorem sub_miss {a b : List Evt} {k j : Nat} (hk : k < a.length) (hj : j < b.length) (h : (a.drop k).Sublist (b.drop j)) (he : alikeE a[k] b[j] = false) : (a.drop k).Sublist (b.drop (j + 1)) := by
  rw [List.drop_eq_getElem_cons hj] at h
  rcases List.sublist_cons_iff.1 h with h | ⟨r, e, _⟩
  · exact h
  · exfalso
    rw [List.drop_eq_getElem_cons hk, List.cons.injEq] at e
    rw [e.1] at he
    unfold alikeE at he
    simp at he
theorem sub_over {a b : List Evt} {k j : Nat} (hk : a.length ≤ k) : (a.drop k).Sublist (b.drop (j + 1)) := by
  rw [List.drop_eq_nil_of_le hk]; exact List.nil_sublist _
theorem sub_end {a b : List Evt} {k : Nat} (h : (a.drop k).Sublist (b.drop b.length)) : a.length ≤ k := by
  rw [List.drop_length] at h
  have := h.length_le
  rw [List.length_drop] at this
  simp at this
  omega
end Go.Proofs.Ytcobgbkoeehdnaa
