/-
  Plain laws: joins of labels, and what is left of a label without somebody's policies.
-/
import Derived.Test.YtfbieagkhbmgjaaDoorNormT
namespace Go.Proofs.YtfbieagkhbmgjaaDoor
open Go.RowKit
set_option linter.unusedVariables false
set_option linter.unusedSimpArgs false

/-- A label's policies are right ones of these chiefs. -/
def RightL (l : List Txt) (x : Lab) : Prop := ∀ p ∈ x, p.2.length ≤ 6 ∧ has l p.1 = true ∧ ∀ s ∈ p.2, has l s = true
theorem labErr_of {l : List Txt} {x : Lab} (h0 : x.length ≤ 200) (h : RightL l x) : labErr l x = 0 := labErr_none h0 fun j hj => by
  obtain ⟨h1, h2, h3⟩ := h _ (List.getElem_mem hj)
  unfold polErr
  rw [if_neg (by omega), if_pos]
  simp only [List.all_cons, h2, Bool.true_and, List.all_eq_true]
  exact h3
theorem right_of {l : List Txt} {acts : List (Txt × Txt)} {x : Lab} (h : labE l acts x = 0) : RightL l x := (labErr_zero (labE_check h).2).2
theorem labE_of {l : List Txt} {acts : List (Txt × Txt)} {x : Lab} (hc : checkC l acts = 0) (h : labErr l x = 0) : labE l acts x = 0 := by
  unfold labE
  rw [if_neg (by rw [hc]; simp), h]
theorem RightL.append {l : List Txt} {x y : Lab} (h : RightL l x) (k : RightL l y) : RightL l (x ++ y) := fun p hp => by
  rcases List.mem_append.1 hp with hp | hp
  · exact h p hp
  · exact k p hp
theorem RightL.filter {l : List Txt} {x : Lab} (h : RightL l x) (f : Pol → Bool) : RightL l (x.filter f) := fun p hp => h p (List.mem_filter.1 hp).1
theorem dedup_len {α : Type} [DecidableEq α] (l : List α) : (dedup l).length ≤ l.length := by
  have : ∀ (p : α) (l : List α), (dedupFrom p l).length ≤ l.length := by
    intro p l
    induction l generalizing p with
    | nil => exact Nat.le_refl _
    | cons x l ih =>
      unfold dedupFrom
      split
      · have := ih p; simp; omega
      · have := ih x; simp; omega
  cases l with
  | nil => exact Nat.le_refl _
  | cons x l => have := this x l; show (x :: dedupFrom x l).length ≤ _; simp; exact this
theorem plainR_len (o : Txt) (l : List Txt) : (plainR o l).length ≤ l.length := by
  unfold plainR
  refine Nat.le_trans (List.length_filter_le _ _) (Nat.le_trans (dedup_len _) ?_)
  rw [(srt_perm cmpT l).length_eq]
  exact Nat.le_refl _
theorem RightL.norm {l : List Txt} {x : Lab} (h : RightL l x) (q : Txt → Txt → Bool) : RightL l (normL q x) := fun p hp => by
  obtain ⟨y, hy, rfl⟩ := mem_norm hp
  obtain ⟨h1, h2, h3⟩ := h y hy
  exact ⟨Nat.le_trans (plainR_len _ _) h1, h2, fun s hs => h3 s (mem_plainR.1 hs).1⟩
theorem norm_few {l : List Txt} {x : Lab} (hl : l.length ≤ 6) (h : RightL l x) (q : Txt → Txt → Bool) : (normL q x).length ≤ 192 :=
  few_pols hl (norm_rising q x) (fun p hp => norm_plain hp) fun p hp => by
    obtain ⟨_, h2, h3⟩ := h.norm q p hp
    exact ⟨has_iff.1 h2, fun s hs => has_iff.1 (h3 s hs)⟩
theorem norm_right {l : List Txt} {acts : List (Txt × Txt)} {x : Lab} (hc : checkC l acts = 0) (h : RightL l x) (q : Txt → Txt → Bool) : labE l acts (normL q x) = 0 := by
  have := norm_few (checkC_zero hc).1 h q
  exact labE_of hc (labErr_of (by omega) (h.norm q))
section
variable {l : List Txt} {acts : List (Txt × Txt)}
theorem covers_self {x : Lab} (h : RightL l x) : ∀ p ∈ x, coversB (mayB l acts) p p = true := fun p hp => by
  obtain ⟨_, h2, h3⟩ := h p hp
  exact covers_refl (may_refl h2) fun r hr => may_refl (h3 r hr)
theorem may_trans' : ∀ a b c : Txt, mayB l acts a b = true → mayB l acts b c = true → mayB l acts a c = true := fun _ _ _ => may_trans
theorem flows_self {x : Lab} (h : RightL l x) : flowsB (mayB l acts) x x = true := flows_iff.2 fun p hp => ⟨p, hp, covers_self h p hp⟩
theorem flows_norm {x : Lab} (h : RightL l x) : flowsB (mayB l acts) x (normL (mayB l acts) x) = true := flows_to_norm may_trans' (covers_self h)
theorem norm_flows {x m : Lab} (h : flowsB (mayB l acts) x m = true) : flowsB (mayB l acts) (normL (mayB l acts) x) m = true := flows_of_norm (flows_iff.1 h)
theorem flows_append {x y m : Lab} {q : Txt → Txt → Bool} (h1 : flowsB q x m = true) (h2 : flowsB q y m = true) : flowsB q (x ++ y) m = true := by
  rw [flows_iff] at *
  intro p hp
  rcases List.mem_append.1 hp with hp | hp
  · exact h1 p hp
  · exact h2 p hp
theorem flows_left {x y m : Lab} {q : Txt → Txt → Bool} (h : flowsB q (x ++ y) m = true) : flowsB q x m = true := flows_iff.2 fun p hp => flows_iff.1 h p (List.mem_append_left _ hp)
theorem flows_right {x y m : Lab} {q : Txt → Txt → Bool} (h : flowsB q (x ++ y) m = true) : flowsB q y m = true := flows_iff.2 fun p hp => flows_iff.1 h p (List.mem_append_right _ hp)
/-- Join. -/
def joinL (q : Txt → Txt → Bool) (a b : Lab) : Lab := normL q (a ++ b)
theorem join_right {a b : Lab} (hc : checkC l acts = 0) (ha : RightL l a) (hb : RightL l b) (q : Txt → Txt → Bool) : labE l acts (joinL q a b) = 0 := norm_right hc (ha.append hb) q
theorem flows_join_left {a b : Lab} (ha : RightL l a) (hb : RightL l b) : flowsB (mayB l acts) a (joinL (mayB l acts) a b) = true := flows_left (flows_norm (ha.append hb))
theorem flows_join_right {a b : Lab} (ha : RightL l a) (hb : RightL l b) : flowsB (mayB l acts) b (joinL (mayB l acts) a b) = true := flows_right (flows_norm (ha.append hb))
theorem join_flows {a b m : Lab} (h1 : flowsB (mayB l acts) a m = true) (h2 : flowsB (mayB l acts) b m = true) : flowsB (mayB l acts) (joinL (mayB l acts) a b) m = true := norm_flows (flows_append h1 h2)
theorem flowsE_of {a b : Lab} (h1 : labE l acts a = 0) (h2 : labE l acts b = 0) : flowsE l acts a b = 0 := by
  unfold flowsE
  rw [if_neg (by rw [h1]; simp), h2]
theorem flowsR_of {a b : Lab} (h1 : labE l acts a = 0) (h2 : labE l acts b = 0) : flowsR l acts a b = flowsB (mayB l acts) a b := flowsR_iff (flowsE_of h1 h2)
/-- What the law's own function tells: may it go, with no error? -/
theorem flowsR_zero {a b : Lab} (h : flowsR l acts a b = true) : flowsE l acts a b = 0 ∧ flowsB (mayB l acts) a b = true := by
  unfold flowsR at h
  rw [Bool.and_eq_true] at h
  exact ⟨by simpa using h.1, h.2⟩
/-- The law on joins. -/
theorem join_law {a b c : Lab} (h : flowsE l acts a b = 0) :
    flowsR l acts a (joinL (mayB l acts) a b) = true ∧ flowsR l acts b (joinL (mayB l acts) a b) = true ∧ flowsR l acts a (normL (mayB l acts) a) = true ∧ flowsR l acts (normL (mayB l acts) a) a = true ∧
      (flowsR l acts a c = true → flowsR l acts b c = true → flowsR l acts (joinL (mayB l acts) a b) c = true) := by
  obtain ⟨ha, hb⟩ := flowsE_zero h
  have hc := (labE_check ha).1
  have ra := right_of ha
  have rb := right_of hb
  have hj := join_right hc ra rb (mayB l acts)
  have hn := norm_right hc ra (mayB l acts)
  rw [flowsR_of ha hj, flowsR_of hb hj, flowsR_of ha hn, flowsR_of hn ha]
  refine ⟨flows_join_left ra rb, flows_join_right ra rb, flows_norm ra, norm_flows (flows_self ra), fun h1 h2 => ?_⟩
  obtain ⟨e1, f1⟩ := flowsR_zero h1
  obtain ⟨e2, f2⟩ := flowsR_zero h2
  rw [flowsR_of hj (flowsE_zero e1).2]
  exact join_flows f1 f2
/-- Without the policies whose owner one of some acts for. -/
def leftOut (q : Txt → Txt → Bool) (by_ : List Txt) (p : Pol) : Bool := anyBy by_ fun s => q s p.1
def lessL (q : Txt → Txt → Bool) (x : Lab) (by_ : List Txt) : Lab := normL q (x.filter fun p => !leftOut q by_ p)
def lessE (l : List Txt) (acts : List (Txt × Txt)) (x : Lab) (by_ : List Txt) : Int := if labE l acts x ≠ 0 then labE l acts x else if 6 < by_.length then 2 else if by_.all (has l) then 0 else 5
theorem lessE_zero {x : Lab} {by_ : List Txt} (h : lessE l acts x by_ = 0) : labE l acts x = 0 ∧ by_.length ≤ 6 ∧ ∀ s ∈ by_, has l s = true := by
  unfold lessE at h
  split at h
  · omega
  · split at h
    · omega
    · split at h
      · rename_i h1 h2 h3
        exact ⟨by omega, by omega, List.all_eq_true.1 h3⟩
      · omega
theorem lessE_of {x : Lab} {by_ : List Txt} (h1 : labE l acts x = 0) (h2 : by_.length ≤ 6) (h3 : ∀ s ∈ by_, has l s = true) : lessE l acts x by_ = 0 := by
  unfold lessE
  rw [if_neg (by rw [h1]; simp), if_neg (by omega), if_pos (List.all_eq_true.2 h3)]
theorem less_right {x : Lab} (hc : checkC l acts = 0) (hx : RightL l x) (q : Txt → Txt → Bool) (by_ : List Txt) : labE l acts (lessL q x by_) = 0 := norm_right hc (hx.filter _) q
theorem less_flows {x : Lab} (hx : RightL l x) (by_ : List Txt) : flowsB (mayB l acts) (lessL (mayB l acts) x by_) x = true :=
  norm_flows (flows_iff.2 fun p hp => ⟨p, (List.mem_filter.1 hp).1, covers_self hx p (List.mem_filter.1 hp).1⟩)
theorem less_twice (q : Txt → Txt → Bool) (x : Lab) (by_ : List Txt) : lessL q (lessL q x by_) by_ = lessL q x by_ := by
  have e : (lessL q x by_).filter (fun p => !leftOut q by_ p) = lessL q x by_ := by
    rw [List.filter_eq_self]
    intro p hp
    obtain ⟨y, hy, rfl⟩ := mem_norm hp
    exact (List.mem_filter.1 hy).2
  show normL q ((lessL q x by_).filter _) = _
  rw [e]
  exact norm_self q _
theorem norm_nil (q : Txt → Txt → Bool) : normL q [] = [] := by
  have h : (normL q []).length ≤ ([] : Lab).length := Nat.le_trans (norm_sub q []).length_le (allOf_le [])
  exact List.eq_nil_of_length_eq_zero (by simpa using h)
theorem less_all {x : Lab} (hx : RightL l x) : lessL (mayB l acts) x l = [] := by
  have e : x.filter (fun p => !leftOut (mayB l acts) l p) = [] := by
    rw [List.filter_eq_nil_iff]
    intro p hp
    have h2 := (hx p hp).2.1
    have : leftOut (mayB l acts) l p = true := any_iff.2 ⟨p.1, has_iff.1 h2, may_refl h2⟩
    rw [this]; simp
  unfold lessL
  rw [e]
  exact norm_nil _
/-- The law on what is left. -/
theorem less_law {a : Lab} {by_ : List Txt} (h : lessE l acts a by_ = 0) :
    flowsE l acts (lessL (mayB l acts) a by_) a = 0 ∧ flowsR l acts (lessL (mayB l acts) a by_) a = true ∧ lessE l acts (lessL (mayB l acts) a by_) by_ = 0 ∧ lessL (mayB l acts) (lessL (mayB l acts) a by_) by_ = lessL (mayB l acts) a by_ ∧ lessE l acts a l = 0 ∧ lessL (mayB l acts) a l = [] := by
  obtain ⟨h1, h2, h3⟩ := lessE_zero h
  have hc := (labE_check h1).1
  have ra := right_of h1
  have hx := less_right hc ra (mayB l acts) by_
  refine ⟨flowsE_of hx h1, ?_, lessE_of hx h2 h3, less_twice _ _ _, lessE_of h1 (checkC_zero hc).1 fun s hs => has_iff.2 hs, less_all ra⟩
  rw [flowsR_of hx h1]
  exact less_flows ra by_
/-- What goes on, goes on without them. -/
theorem less_mono {x y : Lab} (hx : RightL l x) (hy : RightL l y) (by_ : List Txt) (h : flowsB (mayB l acts) x y = true) : flowsB (mayB l acts) (lessL (mayB l acts) x by_) (lessL (mayB l acts) y by_) = true := by
  refine norm_flows (flows_iff.2 fun p hp => ?_)
  obtain ⟨hp1, hp2⟩ := List.mem_filter.1 hp
  obtain ⟨p', h1, h2⟩ := flows_iff.1 h p hp1
  have hk : p' ∈ y.filter fun p => !leftOut (mayB l acts) by_ p := by
    refine List.mem_filter.2 ⟨h1, ?_⟩
    cases e : leftOut (mayB l acts) by_ p' with
    | false => rfl
    | true =>
      obtain ⟨s, hs, hsp⟩ := any_iff.1 e
      have : leftOut (mayB l acts) by_ p = true := any_iff.2 ⟨s, hs, may_trans hsp (covers_iff.1 h2).1⟩
      rw [this] at hp2
      cases hp2
  obtain ⟨p'', h3, h4⟩ := flows_iff.1 (flows_norm (hy.filter fun p => !leftOut (mayB l acts) by_ p)) p' hk
  exact ⟨p'', h3, covers_trans may_trans' h4 h2⟩
theorem join_mono {a b c d : Lab} (ha : RightL l a) (hb : RightL l b) (hc : RightL l c) (hd : RightL l d) (h1 : flowsB (mayB l acts) a c = true) (h2 : flowsB (mayB l acts) b d = true) : flowsB (mayB l acts) (joinL (mayB l acts) a b) (joinL (mayB l acts) c d) = true :=
  join_flows (flows_trans may_trans' h1 (flows_join_left hc hd)) (flows_trans may_trans' h2 (flows_join_right hc hd))
end
end Go.Proofs.YtfbieagkhbmgjaaDoor
