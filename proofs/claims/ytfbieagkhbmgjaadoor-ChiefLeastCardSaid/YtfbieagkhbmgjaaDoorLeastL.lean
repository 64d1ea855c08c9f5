/-
  Plain law: the fewest pairs, with whom somebody acts for found by going from one to the next.
-/
import Derived.Test.YtfbieagkhbmgjaaDoorActsP
import Derived.Test.YtfbieagkhbmgjaaDoorMoreP
namespace Go.Proofs.YtfbieagkhbmgjaaDoor
set_option linter.unusedVariables false
set_option linter.unusedSimpArgs false

section
variable {l : List Txt} {acts : List (Txt × Txt)}
theorem check_actsL (hc : checkC l acts = 0) : ∀ p ∈ acts, has l p.1 = true ∧ has l p.2 = true := fun p hp => by
  obtain ⟨j, hj, rfl⟩ := List.getElem_of_mem hp
  have := (checkC_zero hc).2.2.2 j hj
  simpa [actOk] using this
theorem actM_actsL (hc : checkC l acts = 0) {a b : Txt} (ha : has l a = true) (hb : has l b = true) : actM l acts a b = actsF acts a b := by
  rw [Bool.eq_iff_iff, act_reach (check_actsL hc) ha hb, acts_reach]
/-- Does one act for the other, who is another? -/
def overF (acts : List (Txt × Txt)) (a b : Txt) : Bool := a != b && actsF acts a b
theorem over_eq (hc : checkC l acts = 0) {i k : Nat} (hi : i < l.length) (hk : k < l.length) : overF acts l[i] l[k] = overM (closM l acts) i k := by
  have hn := (checkC_zero hc).2.2.1
  have e1 := idxOf_at hn hi
  have e2 := idxOf_at hn hk
  have h1 : has l l[i] = true := has_iff.2 (List.getElem_mem hi)
  have h2 : has l l[k] = true := has_iff.2 (List.getElem_mem hk)
  unfold overF overM
  rw [← actM_actsL hc h1 h2]
  unfold actM
  rw [e1, e2]
  have : (l[i] != l[k]) = (i != k) := by
    rw [Bool.eq_iff_iff]
    simp only [bne_iff_ne, ne_eq]
    constructor
    · rintro h rfl; exact h rfl
    · intro h e
      rw [e, e2] at e1
      omega
  rw [this]
  rfl
def betwF (l : List Txt) (acts : List (Txt × Txt)) (a b : Txt) : Bool := anyBy l fun c => overF acts a c && overF acts c b
theorem betw_eq (hc : checkC l acts = 0) {i k : Nat} (hi : i < l.length) (hk : k < l.length) : betwF l acts l[i] l[k] = (List.range l.length).any (betwM (closM l acts) i k) := by
  unfold betwF anyBy
  rw [Bool.eq_iff_iff, List.any_eq_true, List.any_eq_true]
  constructor
  · rintro ⟨c, hcl, h⟩
    obtain ⟨j, hj, rfl⟩ := List.getElem_of_mem hcl
    rw [over_eq hc hi hj, over_eq hc hj hk] at h
    refine ⟨j, List.mem_range.2 hj, ?_⟩
    unfold overM at h
    unfold betwM
    simp only [Bool.and_eq_true, bne_iff_ne, ne_eq] at h ⊢
    exact ⟨⟨⟨fun e => h.1.1 e.symm, h.2.1⟩, h.1.2⟩, h.2.2⟩
  · rintro ⟨j, hj, h⟩
    have hj' := List.mem_range.1 hj
    refine ⟨l[j], List.getElem_mem hj', ?_⟩
    rw [over_eq hc hi hj', over_eq hc hj' hk]
    unfold overM
    unfold betwM at h
    simp only [Bool.and_eq_true, bne_iff_ne, ne_eq] at h ⊢
    exact ⟨⟨fun e => h.1.1.1 e.symm, h.1.2⟩, h.1.1.2, h.2⟩
theorem cover_eq (hc : checkC l acts = 0) {i k : Nat} (hi : i < l.length) (hk : k < l.length) : coverM (closM l acts) l.length i k = (overF acts l[i] l[k] && !betwF l acts l[i] l[k]) := by
  unfold coverM
  rw [over_eq hc hi hk, betw_eq hc hi hk]
theorem bad_eq (hc : checkC l acts = 0) {i k : Nat} (hi : i < l.length) (hk : k < l.length) : badM (closM l acts) i k = (overF acts l[i] l[k] && overF acts l[k] l[i]) := by
  rw [over_eq hc hi hk, over_eq hc hk hi]
  unfold badM overM
  cases h : (i != k) with
  | false => simp
  | true =>
    have : (k != i) = true := by
      rw [bne_iff_ne] at h ⊢
      exact fun e => h e.symm
    rw [this]
    simp
/-- A ring is met. -/
theorem least_ring (hc : checkC l acts = 0) {i k : Nat} (hi : i < l.length) (hk : k < l.length) (h1 : overF acts l[i] l[k] = true) (h2 : overF acts l[k] l[i] = true) : leastE l acts = 4 := by
  unfold leastE
  rw [if_neg (by simp [hc])]
  have : ringM l (closM l acts) = true := by
    unfold ringM
    rw [List.any_eq_true]
    exact ⟨(i, k), mem_ahead.2 (.inl ⟨hi, hk⟩), by rw [bad_eq hc hi hk, h1, h2]; rfl⟩
  rw [if_pos this]
/-- No ring is met. -/
theorem least_none (hc : checkC l acts = 0) (h : ∀ i k (hi : i < l.length) (hk : k < l.length), (overF acts l[i] l[k] && overF acts l[k] l[i]) = false) : leastE l acts = 0 := by
  unfold leastE
  rw [if_neg (by simp [hc])]
  have : ringM l (closM l acts) = false := by
    unfold ringM
    rw [List.any_eq_false]
    rintro ⟨a, c⟩ hx
    rcases mem_ahead.1 hx with ⟨h1, h2⟩ | ⟨h1, h2⟩
    · simp only
      rw [bad_eq hc h1 h2, h a c h1 h2]
      simp
    · omega
  rw [this]
  rfl
end
end Go.Proofs.YtfbieagkhbmgjaaDoor
