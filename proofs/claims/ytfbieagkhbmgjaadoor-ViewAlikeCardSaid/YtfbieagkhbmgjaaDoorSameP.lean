/-
  Plain law: by the fewest pairs the same act for the same; without one of them somebody doesn't.
-/
import Derived.Test.YtfbieagkhbmgjaaDoorLeastP
namespace Go.Proofs.YtfbieagkhbmgjaaDoor
set_option linter.unusedVariables false
set_option linter.unusedSimpArgs false

theorem idxOf_lt {l : List Txt} {x : Txt} {j : Nat} (h : idxOf l x = j) : j < l.length := by
  unfold idxOf at h
  cases e : l.idxOf? x with
  | none => rw [e] at h; simp only at h; omega
  | some i =>
    rw [e] at h
    simp only at h
    rw [List.idxOf?, List.findIdx?_eq_some_iff_getElem] at e
    obtain ⟨hi, _⟩ := e
    omega
theorem edge_iff {l : List Txt} {acts : List (Txt × Txt)} {i j : Nat} : edgeM l acts i j = true ↔ i = j ∨ ∃ a ∈ acts, idxOf l a.1 = i ∧ idxOf l a.2 = j := by
  simp [edgeM, Bool.or_eq_true, List.any_eq_true]
theorem clos_reach {l : List Txt} {acts : List (Txt × Txt)} {i j : Nat} : closM l acts i j = true ↔ Reach (fun a b => edgeM l acts a b = true) i j := by
  unfold closM
  rw [war_via _ (fun i => by simp [edgeM])]
  constructor
  · exact fun h => h.reach
  · refine fun h => h.via fun a b e hne => ?_
    rcases edge_iff.1 e with h | ⟨x, _, _, h⟩
    · exact absurd h hne
    · exact idxOf_lt h

section
variable {l : List Txt} {acts : List (Txt × Txt)}
def Over (l : List Txt) (acts : List (Txt × Txt)) (i j : Nat) : Prop := closM l acts i j = true
theorem least_order (h : leastE l acts = 0) : Order (Over l acts) l.length := by
  have hr : ringM l (closM l acts) = false := by
    unfold leastE at h
    split at h
    · omega
    · cases e : ringM l (closM l acts) with
      | false => rfl
      | true => rw [e] at h; simp at h
  refine ⟨fun i _ => clos_reach.2 (.refl i), fun i j k _ _ _ h1 h2 => clos_reach.2 ((clos_reach.1 h1).trans (clos_reach.1 h2)), fun i j hi hj h1 h2 => ?_⟩
  unfold ringM at hr
  rw [List.any_eq_false] at hr
  have := hr (i, j) (mem_ahead.2 (.inl ⟨hi, hj⟩))
  unfold Over at h1 h2
  simpa [badM, overM, h1, h2] using this
theorem least_check (h : leastE l acts = 0) : checkC l acts = 0 := by
  apply Decidable.byContradiction
  intro hne
  unfold leastE at h
  rw [if_pos hne] at h
  exact hne h
theorem cover_iff {i k : Nat} (hi : i < l.length) (hk : k < l.length) : coverM (closM l acts) l.length i k = true ↔ Right (Over l acts) l.length i k := by
  simp only [coverM, overM, Bool.and_eq_true, bne_iff_ne, ne_eq, Bool.not_eq_true', List.any_eq_false, List.mem_range, betwM, Right, Over]
  constructor
  · rintro ⟨⟨h1, h2⟩, h3⟩
    exact ⟨hi, hk, h1, h2, fun ⟨j, hj, a, b, c, d⟩ => h3 j hj ⟨⟨⟨a, b⟩, c⟩, d⟩⟩
  · rintro ⟨_, _, h1, h2, h3⟩
    exact ⟨⟨h1, h2⟩, fun j hj ⟨⟨⟨a, b⟩, c⟩, d⟩ => h3 ⟨j, hj, a, b, c, d⟩⟩
theorem mem_least (h : leastE l acts = 0) {x : Txt × Txt} : x ∈ leastR l acts ↔ ∃ i k, i < l.length ∧ k < l.length ∧ Right (Over l acts) l.length i k ∧ x = (nameAt l i, nameAt l k) := by
  unfold leastR leastTo
  rw [if_pos h]
  simp only [List.mem_map, List.mem_filter, Prod.exists]
  constructor
  · rintro ⟨a, c, ⟨hm, hc⟩, rfl⟩
    have := mem_ahead.1 hm
    have ha : a < l.length ∧ c < l.length := by omega
    exact ⟨a, c, ha.1, ha.2, (cover_iff ha.1 ha.2).1 hc, rfl⟩
  · rintro ⟨a, c, h1, h2, h3, rfl⟩
    exact ⟨a, c, ⟨mem_ahead.2 (.inl ⟨h1, h2⟩), (cover_iff h1 h2).2 h3⟩, rfl⟩
theorem idx_name (h : errNames l = 0) {i : Nat} (hi : i < l.length) : idxOf l (nameAt l i) = i := by
  unfold nameAt; rw [getD_at hi]; exact idxOf_at h hi
theorem name_in {i : Nat} (hi : i < l.length) : has l (nameAt l i) = true := by
  unfold nameAt; rw [getD_at hi, has_iff]; exact List.getElem_mem hi
/-- Right chiefs with these pairs. -/
theorem check_of (h : checkC l acts = 0) {m : List (Txt × Txt)} (hm : m.length ≤ 10) (ha : ∀ x ∈ m, has l x.1 = true ∧ has l x.2 = true) : checkC l m = 0 := by
  obtain ⟨z1, z2, z3, z4⟩ := checkC_zero h
  refine checkC_ok z1 hm z3 fun j hj => ?_
  obtain ⟨h1, h2⟩ := ha _ (List.getElem_mem hj)
  unfold actOk; rw [h1, h2]; rfl
theorem least_names (h : leastE l acts = 0) : ∀ x ∈ leastR l acts, has l x.1 = true ∧ has l x.2 = true := by
  intro x hx
  obtain ⟨i, k, hi, hk, _, rfl⟩ := (mem_least h).1 hx
  exact ⟨name_in hi, name_in hk⟩
theorem least_edge (h : leastE l acts = 0) {a c : Nat} : edgeM l (leastR l acts) a c = true ↔ a = c ∨ Right (Over l acts) l.length a c := by
  obtain ⟨_, _, z3, _⟩ := checkC_zero (least_check h)
  rw [edge_iff]
  constructor
  · rintro (h1 | ⟨x, hx, e1, e2⟩)
    · exact .inl h1
    · obtain ⟨i, k, hi, hk, hr, rfl⟩ := (mem_least h).1 hx
      rw [idx_name z3 hi] at e1
      rw [idx_name z3 hk] at e2
      have e1' : i = a := by omega
      have e2' : k = c := by omega
      subst e1' e2'
      exact .inr hr
  · rintro (h1 | h1)
    · exact .inl h1
    · exact .inr ⟨_, (mem_least h).2 ⟨a, c, h1.1, h1.2.1, h1, rfl⟩, idx_name z3 h1.1, idx_name z3 h1.2.1⟩
theorem least_clos (h : leastE l acts = 0) {i j : Nat} (hi : i < l.length) (hj : j < l.length) : closM l (leastR l acts) i j = closM l acts i j := by
  rw [Bool.eq_iff_iff, clos_reach]
  show _ ↔ Over l acts i j
  rw [← right_iff (least_order h) hi hj]
  constructor
  · exact fun hr => hr.lift fun a c e => by
      rcases (least_edge h).1 e with e | e
      · subst e; exact .refl _
      · exact .step e (.refl _)
  · exact fun hr => hr.mono fun a c e => (least_edge h).2 (.inr e)
theorem least_for (h : leastE l acts = 0) (hm : (leastR l acts).length ≤ 10) {b : Txt} (hb : has l b = true) : forE l acts b = 0 ∧ forE l (leastR l acts) b = 0 ∧ forR l acts b = forR l (leastR l acts) b := by
  have hc := least_check h
  have hc2 := check_of hc hm (least_names h)
  have e1 : forE l acts b = 0 := by unfold forE; rw [if_neg (by omega), hb]; rfl
  have e2 : forE l (leastR l acts) b = 0 := by unfold forE; rw [if_neg (by omega), hb]; rfl
  refine ⟨e1, e2, ?_⟩
  unfold forR
  rw [if_pos e1, if_pos e2]
  unfold forL
  refine List.filter_congr fun s hs => ?_
  obtain ⟨i, i1, i2, _⟩ := idxOf_has (has_iff.2 hs)
  obtain ⟨j, j1, j2, _⟩ := idxOf_has hb
  unfold actM
  rw [i1, j1]
  exact (least_clos h (by simpa using i2) (by simpa using j2)).symm
theorem ahead_apart (n i k : Nat) : (ahead n i k).Pairwise fun x y => x.1 < y.1 ∨ (x.1 = y.1 ∧ x.2 < y.2) := by
  unfold ahead
  rw [List.pairwise_append]
  refine ⟨?_, ?_, ?_⟩
  · rw [List.pairwise_flatMap]
    refine ⟨fun a _ => ?_, ?_⟩
    · rw [List.pairwise_map]
      exact List.pairwise_lt_range.imp fun h => .inr ⟨rfl, h⟩
    · refine List.pairwise_lt_range.imp fun {a c} h => ?_
      intro x hx y hy
      simp only [List.mem_map] at hx hy
      obtain ⟨_, _, rfl⟩ := hx
      obtain ⟨_, _, rfl⟩ := hy
      exact .inl h
  · rw [List.pairwise_map]
    exact List.pairwise_lt_range.imp fun h => .inr ⟨rfl, h⟩
  · intro x hx y hy
    simp only [List.mem_flatMap, List.mem_map, List.mem_range] at hx hy
    obtain ⟨a, ha, _, _, rfl⟩ := hx
    obtain ⟨_, _, rfl⟩ := hy
    exact .inl ha
theorem least_nodup (h : leastE l acts = 0) : (leastR l acts).Pairwise (· ≠ ·) := by
  obtain ⟨_, _, z3, _⟩ := checkC_zero (least_check h)
  unfold leastR leastTo
  rw [if_pos h, List.pairwise_map]
  refine List.Pairwise.imp_of_mem ?_ ((ahead_apart l.length l.length 0).filter _)
  intro x y hx hy hxy e
  have h1 := mem_ahead.1 (List.mem_filter.1 hx).1
  have h2 := mem_ahead.1 (List.mem_filter.1 hy).1
  simp only [Prod.mk.injEq] at e
  have e1 := congrArg (idxOf l) e.1
  have e2 := congrArg (idxOf l) e.2
  rw [idx_name z3 (by omega), idx_name z3 (by omega)] at e1 e2
  omega
theorem least_less (h : leastE l acts = 0) (hm : (leastR l acts).length ≤ 10) {k : Nat} (hk : k < (leastR l acts).length) :
    actsE l ((leastR l acts).eraseIdx k) (leastR l acts)[k].1 (leastR l acts)[k].2 = 0 ∧ actsB l ((leastR l acts).eraseIdx k) (leastR l acts)[k].1 (leastR l acts)[k].2 = false := by
  have hc := least_check h
  obtain ⟨_, _, z3, _⟩ := checkC_zero hc
  have hc2 : checkC l ((leastR l acts).eraseIdx k) = 0 := check_of hc (Nat.le_trans (List.length_eraseIdx_le _ _) hm) fun x hx => least_names h x (List.mem_of_mem_eraseIdx hx)
  obtain ⟨n1, n2⟩ := least_names h _ (List.getElem_mem hk)
  obtain ⟨i, j, hi, hj, hr, hx⟩ := (mem_least h).1 (List.getElem_mem hk)
  obtain ⟨e1, e2⟩ := acts_ok hc2 n1 n2
  refine ⟨e1, ?_⟩
  rw [e2]
  unfold actM
  rw [hx]
  simp only [idx_name z3 hi, idx_name z3 hj, Int.toNat_natCast]
  cases hcl : closM l ((leastR l acts).eraseIdx k) i j with
  | false => rfl
  | true =>
    exfalso
    refine right_less (least_order h) hr ((clos_reach.1 hcl).lift fun a c e => ?_)
    rcases edge_iff.1 e with e | ⟨x, hx', f1, f2⟩
    · subst e; exact .refl _
    · obtain ⟨q, hq, hne, rfl⟩ := List.mem_eraseIdx_iff_getElem.1 hx'
      obtain ⟨i', j', hi', hj', hr', hx2⟩ := (mem_least h).1 (List.getElem_mem hq)
      rw [hx2] at f1 f2
      simp only [idx_name z3 hi', idx_name z3 hj'] at f1 f2
      have f1' : i' = a := by omega
      have f2' : j' = c := by omega
      subst f1' f2'
      refine .step ⟨hr', fun ⟨g1, g2⟩ => ?_⟩ (.refl _)
      subst g1 g2
      have hp := List.pairwise_iff_getElem.1 (least_nodup h)
      rcases Nat.lt_or_gt_of_ne hne with hlt | hlt
      · exact hp q k hq hk hlt (hx2.trans hx.symm)
      · exact hp k q hk hq hlt (hx.trans hx2.symm)
end
end Go.Proofs.YtfbieagkhbmgjaaDoor
