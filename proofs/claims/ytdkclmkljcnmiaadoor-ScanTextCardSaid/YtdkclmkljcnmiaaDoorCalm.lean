/-
  A region that draws its order, whose first operations leave the world as it is, walked once by the cheap steps; then its last ones, in their order.
-/
import Derived.StillTailTactics
import Derived.Deep.QuietTactic
import Derived.BigQuiet
import Derived.WalkKit
namespace Go.Proofs.YtdkclmkljcnmiaaDoor
open Go.RowKit
section
variable {P : Program} {ops : Array Oper} {w : World}
theorem still_of_quiet {o : Oper} {a : Act} {K : Act → Prop} (h : o.quiet P a (fun w' => w' = w) K) : o.still P a w K := by
  obtain ⟨v, h1, h2⟩ := h
  have h3 := h1 w rfl
  unfold Oper.quietAt at h3
  unfold Oper.still
  generalize (execOp a.eval o).run P w = r at h3 ⊢
  unfold Oper.quietUpon at h3
  unfold Oper.stillUpon
  split at h3
  · obtain ⟨rfl, rfl⟩ := h3
    exact ⟨rfl, h2⟩
  · obtain ⟨rfl, rfl⟩ := h3
    exact ⟨rfl, h2⟩
  · obtain ⟨rfl, h4⟩ := h3
    exact ⟨rfl, v, h4, h2⟩
  · exact h3.elim
theorem wpStill_of_quiet {Q : Act → Prop} : ∀ (l : List Oper) (a : Act), wpQuiet P ops (fun w' => w' = w) Q l a → wpStill P ops w Q l a
  | [], _, h => h
  | o :: l, a, h => by
    unfold wpQuiet at h
    unfold wpStill
    split
    · rename_i hw
      rw [if_pos hw] at h
      exact Oper.still_mono (fun a' h' => wpStill_of_quiet l a' h') (still_of_quiet h)
    · rename_i hw
      rw [if_neg hw] at h
      exact wpStill_of_quiet l _ h
theorem wp_region_calm_tail {id : Nat} {Q : Exit → Act → World → Prop} {a : Act} {l : List Oper} (n : Nat) (hm : P.follows .mixedOrders = true) (hB : Region.lexTailB .any l.toArray n = true)
    (h : wpQuiet P l.toArray (fun w' => w' = w.drew) (fun a' => wpList P l.toArray Q (l.drop n) a' w.drew) (l.take n) a) : (Code.region id l.toArray true).wp P Q a w :=
  wp_region_still_tail n hm hB (wpStill_of_quiet _ _ h)

/-! The same over a class of worlds: what calls in the head leave behind may be any world of the class, if their values are the same in all of them. -/
variable {md : Region.Mode} {C : World → Prop}

/-- The head of a region, its first `n` operations in whatever order, in the class. -/
def headQ (P : Program) (md : Region.Mode) (ops : Array Oper) (C : World → Prop) (n : Nat) (L : Array Bool → Act → Prop) : Nat → Array Bool → Act → Prop
  | 0, done, a => L done a
  | f + 1, done, a => Region.ready md ops done ≠ [] ∧ ∀ i ∈ Region.ready md ops done, i < n ∧ qOp P ops C i (headQ P md ops C n L f (done.setIfInBounds i true)) a

theorem headQ_any {n g : Nat} {L : Array Bool → Act → Prop} {Q' : Exit → Act → World → Prop} (hL : ∀ done a w, C w → L done a → wpAny P md ops Q' g done a w) :
    ∀ (f : Nat) (done : Array Bool) (a : Act) (w : World), C w → headQ P md ops C n L f done a → wpAny P md ops Q' (f + g) done a w
  | 0, done, a, w, hw, h => by rw [Nat.zero_add]; exact hL _ _ _ hw h
  | f + 1, done, a, w, hw, h => by
    rw [show f + 1 + g = (f + g) + 1 by omega]
    exact ⟨fun h0 => absurd h0 h.1, fun i hi => wpOp_of_qOp hw (fun a' w' hw' h' => headQ_any hL f _ a' w' hw' h') (h.2 i hi).2⟩

/-- Each of the first `n` operations, but for the first `k0`, is waited for by one behind it, up to number `n`. -/
def sinkK (md : Region.Mode) (ops : Array Oper) (k0 n : Nat) : Bool :=
  (List.range n).all fun i => decide (i < k0) || (List.range (n + 1)).any fun j => decide (i < j) && Region.waitsFor md ops j i
/-- The first `k0` are done. -/
def Early (k0 : Nat) (done : Array Bool) : Prop := ∀ i, i < k0 → done.getD i true = true ∧ done.getD i false = true

theorem Early.set {k0 j : Nat} {done : Array Bool} (h : Early k0 done) : Early k0 (done.setIfInBounds j true) := by
  intro i hi
  obtain ⟨h1, h2⟩ := h i hi
  by_cases e : j = i
  · subst e
    have hs : j < done.size := by
      apply Decidable.byContradiction
      intro hn
      rw [Array.getD_eq_getD_getElem?, Array.getElem?_eq_none (by omega)] at h2
      cases h2
    constructor <;> simp [hs]
  · exact ⟨by rw [getD_set_ne true e]; exact h1, by rw [getD_set_ne false e]; exact h2⟩

theorem tail_waitsK {k0 n : Nat} {done : Array Bool} (hs : sinkK md ops k0 n = true) (hc : Region.chainB md ops n = true) (hn : n < ops.size) (inv : HeadInv md ops n done) (he : Early k0 done) :
    ∀ (d i : Nat), n - i = d → i < n → done.getD i true = false → ∀ t, n ≤ t → t ∉ Region.ready md ops done := by
  intro d
  induction d using Nat.strongRecOn with
  | _ d ih =>
    intro i hd hi hun t ht hr
    have hik : ¬ i < k0 := fun h => by rw [(he i h).1] at hun; cases hun
    obtain ⟨_, ot, hot, hall⟩ := mem_ready.1 hr
    have htlt : t < ops.size := (Array.getElem?_eq_some_iff.1 hot).1
    by_cases htn : t = n
    · subst htn
      have h1 := List.all_eq_true.1 hs i (List.mem_range.2 hi)
      rw [Bool.or_eq_true, decide_eq_true_eq] at h1
      obtain ⟨j, hj, hj2⟩ := List.any_eq_true.1 (h1.resolve_left hik)
      simp only [Bool.and_eq_true, decide_eq_true_eq] at hj2
      obtain ⟨oj, hoj, e, hel, hb, hon⟩ := Region.waitsFor_spec hj2.2
      have hjle : j ≤ t := by have := List.mem_range.1 hj; omega
      by_cases hjt : j = t
      · subst hjt
        have : oj = ot := Option.some.inj (hoj.symm.trans hot)
        subst this
        have h2 := hall e hel hb
        rw [hon, getD_both hun] at h2
        cases h2
      · cases hl : done.getD j false with
        | true =>
          have h2 := inv.closed j oj hoj hl e hel hb
          rw [hon, getD_both hun] at h2
          cases h2
        | false =>
          have hjs : j < done.size := by rw [inv.size]; omega
          exact ih (t - j) (by omega) j rfl (by omega) (getD_in hjs hl) t (Nat.le_refl _) hr
    · have h1 := List.all_eq_true.1 hc t (List.mem_range.2 htlt)
      simp only [Bool.or_eq_true, decide_eq_true_eq] at h1
      rcases h1 with h1 | h1
      · omega
      · obtain ⟨o', ho', e, hel, hb, hon⟩ := Region.waitsFor_spec h1
        have : o' = ot := Option.some.inj (ho'.symm.trans hot)
        subst this
        have h2 := hall e hel hb
        rw [hon, getD_both (inv.tail (t - 1) (by omega) (by omega))] at h2
        cases h2

theorem headQ_first {k0 n i : Nat} {oi : Oper} {v : Value} {L : Array Bool → Act → Prop} (hi : ops[i]? = some oi) (hsel : ∀ (j : Nat) (o : Oper) cs b, ops[j]? = some o → o.op ≠ .select cs b)
    (hs : sinkK md ops k0 n = true) (hc : Region.chainB md ops n = true) (hn : n < ops.size) (hin : i < n) (hend : ∀ done a, L done a → ∀ j ∈ Region.ready md ops done, n ≤ j) :
    ∀ (f : Nat) (done : Array Bool) (a : Act), HeadInv md ops n done → Early k0 done →
      (∀ j oj, ops[j]? = some oj → j ≠ i → done.getD j true = false → (∀ e ∈ oj.after, Region.binds md e = true → e.on ≠ i) → oi.apart ops oj = true) →
      i ∈ Region.ready md ops done → YieldsIn P ops C oi v a →
      headQ P md ops C n L f (done.setIfInBounds i true) (a.put oi.dst v) → headQ P md ops C n L (f + 1) done a := by
  intro f
  induction f with
  | zero =>
    intro done a inv he _ hr hy H
    have open_i := (mem_ready.1 hr).1
    refine ⟨List.ne_nil_of_mem hr, fun j hj => ?_⟩
    have hjn : j < n := Nat.lt_of_not_le fun h => tail_waitsK hs hc hn inv he _ i rfl hin open_i j h hj
    by_cases hji : j = i
    · subst hji; exact ⟨hjn, hy.qOp hi H⟩
    · exact absurd (hend _ _ H j (ready_mono hj hji)) (by omega)
  | succ f ih =>
    intro done a inv he hfree hr hy H
    have open_i := (mem_ready.1 hr).1
    refine ⟨List.ne_nil_of_mem hr, fun j hj => ?_⟩
    have hjn : j < n := Nat.lt_of_not_le fun h => tail_waitsK hs hc hn inv he _ i rfl hin open_i j h hj
    by_cases hji : j = i
    · subst hji; exact ⟨hjn, hy.qOp hi H⟩
    · have next := (H.2 j (ready_mono hj hji)).2
      obtain ⟨open_j, oj, hoj, hall⟩ := mem_ready.1 hj
      have hnot : ∀ e ∈ oj.after, Region.binds md e = true → e.on ≠ i := fun e he hb heq => by
        have h1 := hall e he hb
        rw [heq, getD_both open_i] at h1
        cases h1
      have moved := qOp_put hoj (hfree j oj hoj hji open_j hnot) (fun cs b => hsel i oi cs b hi) (fun cs b => hsel j oj cs b hoj) hy next
      refine ⟨hjn, qOp_mono (fun a' h3 => ih (done.setIfInBounds j true) a' (inv.set hj hjn) he.set (fun k ok hk hki hun hno => ?_) (ready_mono hr (Ne.symm hji)) h3.1 ?_) moved⟩
      · refine hfree k ok hk hki ?_ hno
        by_cases hjk : j = k
        · subst hjk; exact open_j
        · rw [getD_set_ne true hjk] at hun; exact hun
      · rw [Array.setIfInBounds_comm _ _ hji]
        exact h3.2

theorem headQ_lex {k0 n g : Nat} {Lq : Act → Prop} (hsel : Region.noSelect ops = true) (hs : sinkK md ops k0 n = true) (hc : Region.chainB md ops n = true) (hn : n < ops.size) :
    ∀ (l : List Oper) (k : Nat) (done : Array Bool) (a : Act), (∀ j, j < l.length → l[j]? = ops[k + j]?) → k + l.length = n → HeadInv md ops n done → Early k0 done →
    Region.lexHead md ops g l.length k done = true → wpQuiet P ops C Lq l a →
    headQ P md ops C n (fun done' a' => Region.seqB md ops g n done' = true ∧ Lq a') l.length done a
  | [], k, done, a, _, hk, _, _, hB, h => by
    have : k = n := by simpa using hk
    subst this
    exact ⟨by simpa [Region.lexHead] using hB, h⟩
  | o :: l, k, done, a, hl, hk, inv, he, hB, h => by
    have h0 : ops[k]? = some o := by simpa using (hl 0 (by simp)).symm
    simp only [List.length_cons, Region.lexHead, Bool.and_eq_true] at hB
    simp only [List.length_cons] at hk
    have hr : k ∈ Region.ready md ops done := by simpa using hB.1.1
    have hst : qOp P ops C k (wpQuiet P ops C Lq l) a := by unfold qOp; simp only [h0]; exact h
    obtain ⟨v, hy, hK⟩ := yieldsIn_of_qOp h0 hst
    exact headQ_first h0 (Region.noSelect_spec hsel) hs hc hn (by omega) (fun done' a' hL => seqB_ready hL.1) l.length done a inv he (Region.free_spec h0 hB.1.2) hr hy
      (headQ_lex hsel hs hc hn l (k + 1) _ _ (fun j hj => by have := hl (j + 1) (by simp; omega); simpa [Nat.add_assoc, Nat.add_comm 1 j] using this) (by omega) (inv.set hr (by omega)) he.set hB.2 hK)

/-- From a state in which the first `k0` operations are done. -/
theorem wpAny_mild {Q : Exit → Act → World → Prop} {a : Act} {l : List Oper} (k0 n : Nat) (D : Array Bool) (C : World → Prop) (hk : k0 ≤ n) (hsel : Region.noSelect l.toArray = true) (hn : n < l.toArray.size)
    (hs : sinkK .any l.toArray k0 n = true) (hc : Region.chainB .any l.toArray n = true) (inv0 : HeadInv .any l.toArray n D) (he : Early k0 D)
    (hlex : Region.lexHead .any l.toArray (l.toArray.size - n) (n - k0) k0 D = true) (hC : C w)
    (h : wpQuiet P l.toArray C (fun a' => ∀ w', C w' → wpList P l.toArray Q (l.drop n) a' w') ((l.take n).drop k0) a) : wpAny P .any l.toArray Q (l.toArray.size - k0) D a w := by
  have hn' : n < l.length := by simpa using hn
  have htl : ((l.take n).drop k0).length = n - k0 := by rw [List.length_drop, List.length_take, Nat.min_eq_left (by omega)]
  have hdl : (l.drop n).length = l.toArray.size - n := by simp
  have H := headQ_lex (P := P) (C := C) (md := .any) (k0 := k0) (g := l.toArray.size - n) hsel hs hc hn ((l.take n).drop k0) k0 D a (fun j hj => by
    rw [htl] at hj
    rw [List.getElem?_drop, List.getElem?_take, if_pos (by omega)]
    simp) (by rw [htl]; omega) inv0 he (by rw [htl]; exact hlex) h
  have := headQ_any (Q' := Q) (g := l.toArray.size - n) (fun done a' w' hw' hL => by
    have := wpAny_of_seq (md := .any) (Q' := Q) (l.drop n) n done a' w' (fun j => by simp [List.getElem?_drop]) (by rw [hdl]; exact hL.1) (hL.2 w' hw')
    rwa [hdl] at this) _ _ _ w hC H
  rw [htl, show n - k0 + (l.toArray.size - n) = l.toArray.size - k0 by simp; omega] at this
  exact this

theorem headInv_start (l : List Oper) (n : Nat) : HeadInv .any l.toArray n (Array.replicate l.toArray.size false) :=
  ⟨by simp, fun j oj _ hl => (by rw [getD_replicate_false] at hl; cases hl), fun t _ ht => getD_in (by simpa using ht) (getD_replicate_false _ _)⟩

def mildB (l : List Oper) (n : Nat) : Bool :=
  Region.noSelect l.toArray && decide (n < l.toArray.size) && sinkK .any l.toArray 0 n && Region.chainB .any l.toArray n && Region.lexHead .any l.toArray (l.toArray.size - n) n 0 (Array.replicate l.toArray.size false)
/-- A region that draws its order: its first `n` operations yield the same in every world of a class, and leave a world of the class; then its last ones, in their order. -/
theorem wp_region_mild_tail {id : Nat} {Q : Exit → Act → World → Prop} {a : Act} {l : List Oper} (n : Nat) (C : World → Prop) (hm : P.follows .mixedOrders = true) (hB : mildB l n = true) (hC : C w.drew)
    (h : wpQuiet P l.toArray C (fun a' => ∀ w', C w' → wpList P l.toArray Q (l.drop n) a' w') (l.take n) a) : (Code.region id l.toArray true).wp P Q a w := by
  simp only [mildB, Bool.and_eq_true, decide_eq_true_eq] at hB
  obtain ⟨⟨⟨⟨hsel, hn⟩, hs⟩, hc⟩, hlex⟩ := hB
  exact wp_region_any hm (wpAny_mild (w := w.drew) 0 n _ C (Nat.zero_le _) hsel hn hs hc (headInv_start l n) (fun i hi => absurd hi (Nat.not_lt_zero _)) hlex hC h)

def movedB (l : List Oper) (n : Nat) : Bool :=
  Region.noSelect l.toArray && decide (n < l.toArray.size) && sinkK .any l.toArray 1 n && Region.chainB .any l.toArray n && decide (1 ≤ n) &&
    (Region.ready .any l.toArray (Array.replicate l.toArray.size false)).contains 0 && Region.free .any l.toArray (Array.replicate l.toArray.size false) 0 &&
    Region.lexHead .any l.toArray (l.toArray.size - n) (n - 1) 1 ((Array.replicate l.toArray.size false).setIfInBounds 0 true)
/-- The same behind a first operation that moves a value: it may be taken first. -/
theorem wp_region_moved_tail {id : Nat} {Q : Exit → Act → World → Prop} {a : Act} {o : Oper} {l : List Oper} {x : Operand} (n : Nat) (C : World → Prop) (hm : P.follows .mixedOrders = true) (ho : o.op = .move x) (hg : o.guard = none)
    (hQ : ∀ c (a' : Act) v w, Q (.panic c) (a'.put o.dst v) w → Q (.panic c) a' w) (hB : movedB (o :: l) n = true) (hC : C w.drew)
    (h : wpQuiet P (o :: l).toArray C (fun a' => ∀ w', C w' → wpList P (o :: l).toArray Q ((o :: l).drop n) a' w') (((o :: l).take n).drop 1) (a.put o.dst (a.eval x))) : (Code.region id (o :: l).toArray true).wp P Q a w := by
  simp only [movedB, Bool.and_eq_true, decide_eq_true_eq] at hB
  obtain ⟨⟨⟨⟨⟨⟨⟨hsel, hn⟩, hs⟩, hc⟩, h1⟩, hr⟩, hf⟩, hlex⟩ := hB
  have hr' : 0 ∈ Region.ready .any (o :: l).toArray (Array.replicate (o :: l).toArray.size false) := by simpa using hr
  have hsz : (o :: l).toArray.size = ((o :: l).toArray.size - 1) + 1 := by simp
  refine wp_region_any hm ?_
  rw [hsz]
  refine wpAny_first (i := 0) (oi := o) (v := a.eval x) (by simp) (Region.noSelect_spec hsel) (fun c a' w' h' => hQ c a' _ w' h') _ _ _ _ (Region.free_spec (by simp) hf) hr' (.inl ⟨by simp [Region.wanted, hg], fun w' => BigFrame.run_move x ho w'⟩) ?_
  · exact wpAny_mild (w := w.drew) 1 n _ C h1 hsel hn hs hc ((headInv_start (o :: l) n).set hr' (by omega)) (fun i hi => by
      have : i = 0 := by omega
      subst this
      simp) hlex hC h
end

/-- All worlds in which old memory stands, as the values of a function: so that what holds of its cells is a plain equation. -/
theorem exists_ext (W : World) : ∃ ext : World → World, (∀ x, Below W.heap.size W (ext x)) ∧ ∀ w', Below W.heap.size W w' → w' = ext w' := by
  classical
  refine ⟨fun x => if Below W.heap.size W x then x else W, fun x => ?_, fun w' h => ?_⟩
  · show Below W.heap.size W (if Below W.heap.size W x then x else W)
    split
    · assumption
    · exact Below.refl _ _
  · show w' = if Below W.heap.size W w' then w' else W
    rw [if_pos h]
end Go.Proofs.YtdkclmkljcnmiaaDoor
