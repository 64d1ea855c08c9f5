/-
  Plain law: going round over all middles in turn (Warshall) gives just what is reached from one to the next. A region that draws its order, whose first operations leave the world as it is, walked once by the cheap steps; then its last ones, in their order. chief.closure: who of all chiefs acts for each, over others too.
-/
import Derived.StillTailTactics
import Derived.Deep.QuietTactic
import Derived.BigQuiet
import Derived.WalkKit
import Derived.Test.YtcgihpfanfbonaaGreatDoorLN00
import Derived.Deep.OwnRows
namespace Go.Proofs.YtcgihpfanfbonaaGreatDoor
set_option linter.unusedSimpArgs false

/-- From one to the other over middles below `k`. -/
inductive Via (E : Nat → Nat → Prop) (k : Nat) : Nat → Nat → Prop
  | refl (i : Nat) : Via E k i i
  | edge {i j : Nat} : E i j → Via E k i j
  | mid {i m j : Nat} : m < k → Via E k i m → Via E k m j → Via E k i j

theorem Via.mono {E : Nat → Nat → Prop} {k k' : Nat} (hk : k ≤ k') {i j : Nat} (h : Via E k i j) : Via E k' i j := by
  induction h with
  | refl i => exact .refl i
  | edge h => exact .edge h
  | mid hm _ _ h1 h2 => exact .mid (Nat.lt_of_lt_of_le hm hk) h1 h2

theorem Via.succ {E : Nat → Nat → Prop} {k i j : Nat} : Via E (k + 1) i j ↔ Via E k i j ∨ (Via E k i k ∧ Via E k k j) := by
  constructor
  · intro h
    induction h with
    | refl i => exact .inl (.refl i)
    | edge h => exact .inl (.edge h)
    | @mid i m j hm _ _ h1 h2 =>
      by_cases hk : m < k
      · rcases h1 with h1 | ⟨h1, h1'⟩ <;> rcases h2 with h2 | ⟨h2, h2'⟩
        · exact .inl (.mid hk h1 h2)
        · exact .inr ⟨.mid hk h1 h2, h2'⟩
        · exact .inr ⟨h1, .mid hk h1' h2⟩
        · exact .inr ⟨h1, h2'⟩
      · obtain rfl : m = k := by omega
        rcases h1 with h1 | ⟨h1, h1'⟩ <;> rcases h2 with h2 | ⟨h2, h2'⟩
        · exact .inr ⟨h1, h2⟩
        · exact .inr ⟨h1, h2'⟩
        · exact .inr ⟨h1, h2⟩
        · exact .inr ⟨h1, h2'⟩
  · rintro (h | ⟨h1, h2⟩)
    · exact h.mono (Nat.le_succ k)
    · exact .mid (Nat.lt_succ_self k) (h1.mono (Nat.le_succ k)) (h2.mono (Nat.le_succ k))

/-- One round over the middle `k`. -/
def warRound (m : Nat → Nat → Bool) (k i j : Nat) : Bool := m i j || (m i k && m k j)
/-- All rounds below `k`. -/
def war (m : Nat → Nat → Bool) : Nat → Nat → Nat → Bool
  | 0 => m
  | k + 1 => warRound (war m k) k

theorem war_via (m : Nat → Nat → Bool) (hr : ∀ i, m i i = true) (k i j : Nat) : war m k i j = true ↔ Via (fun a b => m a b = true) k i j := by
  induction k generalizing i j with
  | zero =>
    constructor
    · intro h; exact .edge h
    · intro h
      show m i j = true
      induction h with
      | refl i => exact hr i
      | edge h => exact h
      | mid hm => omega
  | succ k ih =>
    rw [Via.succ, ← ih, ← ih, ← ih]
    simp [war, warRound]

theorem war_refl (m : Nat → Nat → Bool) (hr : ∀ i, m i i = true) (k i : Nat) : war m k i i = true := (war_via m hr k i i).2 (.refl i)
/-- What stands in the round's own row and column stays. -/
theorem warRound_row (m : Nat → Nat → Bool) (k j : Nat) (hr : m k k = true) : warRound m k k j = m k j := by simp [warRound, hr]
theorem warRound_col (m : Nat → Nat → Bool) (k i : Nat) (hr : m k k = true) : warRound m k i k = m i k := by
  unfold warRound; rw [hr]; cases m i k <;> rfl

/-- From one to the next, as often as one likes. -/
inductive Reach (E : Nat → Nat → Prop) : Nat → Nat → Prop
  | refl (i : Nat) : Reach E i i
  | step {i j k : Nat} : E i j → Reach E j k → Reach E i k

theorem Reach.trans {E : Nat → Nat → Prop} {i j k : Nat} (h : Reach E i j) (h' : Reach E j k) : Reach E i k := by
  induction h with
  | refl i => exact h'
  | step e _ ih => exact .step e (ih h')
theorem Reach.mono {E F : Nat → Nat → Prop} (hEF : ∀ i j, E i j → F i j) {i j : Nat} (h : Reach E i j) : Reach F i j := by
  induction h with
  | refl i => exact .refl i
  | step e _ ih => exact .step (hEF _ _ e) ih
theorem Reach.lift {E F : Nat → Nat → Prop} (hEF : ∀ i j, E i j → Reach F i j) {i j : Nat} (h : Reach E i j) : Reach F i j := by
  induction h with
  | refl i => exact .refl i
  | step e _ ih => exact (hEF _ _ e).trans ih
theorem Via.reach {E : Nat → Nat → Prop} {k i j : Nat} (h : Via E k i j) : Reach E i j := by
  induction h with
  | refl i => exact .refl i
  | edge h => exact .step h (.refl _)
  | mid _ _ _ h1 h2 => exact h1.trans h2
theorem Reach.via {E : Nat → Nat → Prop} {n : Nat} (hn : ∀ i j, E i j → i ≠ j → j < n) {i j : Nat} (h : Reach E i j) : Via E n i j := by
  induction h with
  | refl i => exact .refl i
  | @step i j k e _ ih =>
    by_cases hij : i = j
    · subst hij; exact ih
    · exact .mid (hn _ _ e hij) (.edge e) ih

/-- Whoever is reached by the fewest pairs: `R` is who is over whom, among `n`, nobody over one who is over them. -/
structure Order (R : Nat → Nat → Prop) (n : Nat) : Prop where
  refl : ∀ i, i < n → R i i
  trans : ∀ i j k, i < n → j < n → k < n → R i j → R j k → R i k
  anti : ∀ i j, i < n → j < n → R i j → R j i → i = j

/-- Right over another one, nobody between. -/
def Right (R : Nat → Nat → Prop) (n i k : Nat) : Prop :=
  i < n ∧ k < n ∧ i ≠ k ∧ R i k ∧ ¬ ∃ j, j < n ∧ j ≠ i ∧ j ≠ k ∧ R i j ∧ R j k

theorem right_reach {R : Nat → Nat → Prop} {n : Nat} (h : Order R n) : ∀ (c i k : Nat), i < n → k < n → R i k →
    ((List.range n).filter fun j => decide (j ≠ i ∧ j ≠ k) && @decide (R i j ∧ R j k) (Classical.propDecidable _)).length ≤ c → Reach (Right R n) i k := by
  intro c
  induction c with
  | zero =>
    intro i k hi hk hR hc
    by_cases hik : i = k
    · subst hik; exact .refl i
    refine .step ⟨hi, hk, hik, hR, ?_⟩ (.refl k)
    rintro ⟨j, hj, h1, h2, h3, h4⟩
    have : j ∈ ((List.range n).filter fun j => decide (j ≠ i ∧ j ≠ k) && @decide (R i j ∧ R j k) (Classical.propDecidable _)) := by
      simp [h1, h2, h3, h4, hj]
    have := List.length_pos_of_mem this
    omega
  | succ c ih =>
    intro i k hi hk hR hc
    by_cases hik : i = k
    · subst hik; exact .refl i
    by_cases hb : ∃ j, j < n ∧ j ≠ i ∧ j ≠ k ∧ R i j ∧ R j k
    · obtain ⟨j, hj, h1, h2, h3, h4⟩ := hb
      have less : ∀ (p q : Nat → Bool) (l : List Nat), (∀ x, x ∈ l → p x = true → q x = true) → j ∈ l → q j = true → p j = false → (l.filter p).length + 1 ≤ (l.filter q).length := by
        intro p q l
        induction l with
        | nil => intro _ hm; simp at hm
        | cons y l ihl =>
          intro hpq hm hq hp
          have mono : (l.filter p).length ≤ (l.filter q).length := by
            clear ihl hm
            induction l with
            | nil => simp
            | cons z l ihz =>
              have := ihz (fun x hx => hpq x (by simp at hx ⊢; rcases hx with hx | hx <;> simp [hx]))
              have hz := hpq z (by simp)
              by_cases h : p z = true
              · simp [List.filter_cons, h, hz h]; exact this
              · simp only [List.filter_cons, h, if_false, Bool.false_eq_true]
                split <;> simp <;> omega
          by_cases hy : y = j
          · subst hy
            simp [List.filter_cons, hq, hp]; omega
          · have hm' : j ∈ l := by
              rcases List.mem_cons.1 hm with h | h
              · exact absurd h.symm hy
              · exact h
            have := ihl (fun x hx => hpq x (List.mem_cons_of_mem _ hx)) hm' hq hp
            have hz := hpq y (by simp)
            by_cases h : p y = true
            · simp [List.filter_cons, h, hz h]; omega
            · simp only [List.filter_cons, h, if_false, Bool.false_eq_true]
              split <;> simp <;> omega
      have a := ih i j hi hj h3 (by
        have := less (fun x => decide (x ≠ i ∧ x ≠ j) && @decide (R i x ∧ R x j) (Classical.propDecidable _)) (fun x => decide (x ≠ i ∧ x ≠ k) && @decide (R i x ∧ R x k) (Classical.propDecidable _)) (List.range n)
          (by
            intro x hx hp
            simp only [List.mem_range] at hx
            simp only [Bool.and_eq_true, decide_eq_true_eq] at hp ⊢
            obtain ⟨⟨p1, p2⟩, p3, p4⟩ := hp
            refine ⟨⟨p1, ?_⟩, p3, h.trans _ _ _ hx hj hk p4 h4⟩
            rintro rfl
            exact h2 (h.anti _ _ hj hk h4 p4))
          (by simpa using hj) (by simp [h1, h2, h3, h4]) (by simp)
        omega)
      have b := ih j k hj hk h4 (by
        have := less (fun x => decide (x ≠ j ∧ x ≠ k) && @decide (R j x ∧ R x k) (Classical.propDecidable _)) (fun x => decide (x ≠ i ∧ x ≠ k) && @decide (R i x ∧ R x k) (Classical.propDecidable _)) (List.range n)
          (by
            intro x hx hp
            simp only [List.mem_range] at hx
            simp only [Bool.and_eq_true, decide_eq_true_eq] at hp ⊢
            obtain ⟨⟨p1, p2⟩, p3, p4⟩ := hp
            refine ⟨⟨?_, p2⟩, h.trans _ _ _ hi hj hx h3 p3, p4⟩
            rintro rfl
            exact h1 (h.anti _ _ hj hi p3 h3))
          (by simpa using hj) (by simp [h1, h2, h3, h4]) (by simp)
        omega)
      exact a.trans b
    · exact .step ⟨hi, hk, hik, hR, hb⟩ (.refl k)

/-- The fewest pairs reach just whom one is over. -/
theorem right_iff {R : Nat → Nat → Prop} {n : Nat} (h : Order R n) {i k : Nat} (hi : i < n) (hk : k < n) : Reach (Right R n) i k ↔ R i k := by
  constructor
  · intro hr
    induction hr with
    | refl i => exact h.refl i hi
    | step e _ ih => exact h.trans _ _ _ hi e.2.1 hk e.2.2.2.1 (ih e.2.1 hk)
  · exact fun hR => right_reach h _ i k hi hk hR (Nat.le_refl _)

/-- Without one of them somebody isn't reached. -/
theorem right_less {R : Nat → Nat → Prop} {n : Nat} (h : Order R n) {i k : Nat} (hik : Right R n i k) : ¬ Reach (fun a b => Right R n a b ∧ ¬ (a = i ∧ b = k)) i k := by
  intro hr
  obtain ⟨hi, hk, hne, _, hno⟩ := hik
  cases hr with
  | refl => exact hne rfl
  | @step _ j _ e hr =>
    obtain ⟨⟨_, hj, hij, hRj, _⟩, hnot⟩ := e
    have hjk : R j k := (right_iff h hj hk).1 (hr.mono fun _ _ h => h.1)
    refine hno ⟨j, hj, fun e => hij e.symm, fun e => hnot ⟨rfl, e⟩, hRj, hjk⟩
end Go.Proofs.YtcgihpfanfbonaaGreatDoor
namespace Go.Proofs.YtcgihpfanfbonaaGreatDoor
open Go.RowKit
section
variable {P : Program} {ops : Array Oper} {w : World}
theorem still_of_quiet {o : Oper} {a : Act} {K : Act → Prop} (h : o.quiet P a (fun w' => w' = w) K) : o.still P a w K := by
  obtain ⟨v, h1, h2⟩ := h
  have h3 := h1 w rfl
  unfold Oper.quietAt at h3
  unfold Oper.still
  generalize (execOp a.eval o).run P w = r at h3 ⊢
  unfold Oper.quietUpon at h3
  unfold Oper.stillUpon
  split at h3
  · obtain ⟨rfl, rfl⟩ := h3
    exact ⟨rfl, h2⟩
  · obtain ⟨rfl, rfl⟩ := h3
    exact ⟨rfl, h2⟩
  · obtain ⟨rfl, h4⟩ := h3
    exact ⟨rfl, v, h4, h2⟩
  · exact h3.elim
theorem wpStill_of_quiet {Q : Act → Prop} : ∀ (l : List Oper) (a : Act), wpQuiet P ops (fun w' => w' = w) Q l a → wpStill P ops w Q l a
  | [], _, h => h
  | o :: l, a, h => by
    unfold wpQuiet at h
    unfold wpStill
    split
    · rename_i hw
      rw [if_pos hw] at h
      exact Oper.still_mono (fun a' h' => wpStill_of_quiet l a' h') (still_of_quiet h)
    · rename_i hw
      rw [if_neg hw] at h
      exact wpStill_of_quiet l _ h
theorem wp_region_calm_tail {id : Nat} {Q : Exit → Act → World → Prop} {a : Act} {l : List Oper} (n : Nat) (hm : P.follows .mixedOrders = true) (hB : Region.lexTailB .any l.toArray n = true)
    (h : wpQuiet P l.toArray (fun w' => w' = w.drew) (fun a' => wpList P l.toArray Q (l.drop n) a' w.drew) (l.take n) a) : (Code.region id l.toArray true).wp P Q a w :=
  wp_region_still_tail n hm hB (wpStill_of_quiet _ _ h)

/-! The same over a class of worlds: what calls in the head leave behind may be any world of the class, if their values are the same in all of them. -/
variable {md : Region.Mode} {C : World → Prop}

/-- The head of a region, its first `n` operations in whatever order, in the class. -/
def headQ (P : Program) (md : Region.Mode) (ops : Array Oper) (C : World → Prop) (n : Nat) (L : Array Bool → Act → Prop) : Nat → Array Bool → Act → Prop
  | 0, done, a => L done a
  | f + 1, done, a => Region.ready md ops done ≠ [] ∧ ∀ i ∈ Region.ready md ops done, i < n ∧ qOp P ops C i (headQ P md ops C n L f (done.setIfInBounds i true)) a

theorem headQ_any {n g : Nat} {L : Array Bool → Act → Prop} {Q' : Exit → Act → World → Prop} (hL : ∀ done a w, C w → L done a → wpAny P md ops Q' g done a w) :
    ∀ (f : Nat) (done : Array Bool) (a : Act) (w : World), C w → headQ P md ops C n L f done a → wpAny P md ops Q' (f + g) done a w
  | 0, done, a, w, hw, h => by rw [Nat.zero_add]; exact hL _ _ _ hw h
  | f + 1, done, a, w, hw, h => by
    rw [show f + 1 + g = (f + g) + 1 by omega]
    exact ⟨fun h0 => absurd h0 h.1, fun i hi => wpOp_of_qOp hw (fun a' w' hw' h' => headQ_any hL f _ a' w' hw' h') (h.2 i hi).2⟩

/-- Each of the first `n` operations, but for the first `k0`, is waited for by one behind it, up to number `n`. -/
def sinkK (md : Region.Mode) (ops : Array Oper) (k0 n : Nat) : Bool :=
  (List.range n).all fun i => decide (i < k0) || (List.range (n + 1)).any fun j => decide (i < j) && Region.waitsFor md ops j i
/-- The first `k0` are done. -/
def Early (k0 : Nat) (done : Array Bool) : Prop := ∀ i, i < k0 → done.getD i true = true ∧ done.getD i false = true

theorem Early.set {k0 j : Nat} {done : Array Bool} (h : Early k0 done) : Early k0 (done.setIfInBounds j true) := by
  intro i hi
  obtain ⟨h1, h2⟩ := h i hi
  by_cases e : j = i
  · subst e
    have hs : j < done.size := by
      apply Decidable.byContradiction
      intro hn
      rw [Array.getD_eq_getD_getElem?, Array.getElem?_eq_none (by omega)] at h2
      cases h2
    constructor <;> simp [hs]
  · exact ⟨by rw [getD_set_ne true e]; exact h1, by rw [getD_set_ne false e]; exact h2⟩

theorem tail_waitsK {k0 n : Nat} {done : Array Bool} (hs : sinkK md ops k0 n = true) (hc : Region.chainB md ops n = true) (hn : n < ops.size) (inv : HeadInv md ops n done) (he : Early k0 done) :
    ∀ (d i : Nat), n - i = d → i < n → done.getD i true = false → ∀ t, n ≤ t → t ∉ Region.ready md ops done := by
  intro d
  induction d using Nat.strongRecOn with
  | _ d ih =>
    intro i hd hi hun t ht hr
    have hik : ¬ i < k0 := fun h => by rw [(he i h).1] at hun; cases hun
    obtain ⟨_, ot, hot, hall⟩ := mem_ready.1 hr
    have htlt : t < ops.size := (Array.getElem?_eq_some_iff.1 hot).1
    by_cases htn : t = n
    · subst htn
      have h1 := List.all_eq_true.1 hs i (List.mem_range.2 hi)
      rw [Bool.or_eq_true, decide_eq_true_eq] at h1
      obtain ⟨j, hj, hj2⟩ := List.any_eq_true.1 (h1.resolve_left hik)
      simp only [Bool.and_eq_true, decide_eq_true_eq] at hj2
      obtain ⟨oj, hoj, e, hel, hb, hon⟩ := Region.waitsFor_spec hj2.2
      have hjle : j ≤ t := by have := List.mem_range.1 hj; omega
      by_cases hjt : j = t
      · subst hjt
        have : oj = ot := Option.some.inj (hoj.symm.trans hot)
        subst this
        have h2 := hall e hel hb
        rw [hon, getD_both hun] at h2
        cases h2
      · cases hl : done.getD j false with
        | true =>
          have h2 := inv.closed j oj hoj hl e hel hb
          rw [hon, getD_both hun] at h2
          cases h2
        | false =>
          have hjs : j < done.size := by rw [inv.size]; omega
          exact ih (t - j) (by omega) j rfl (by omega) (getD_in hjs hl) t (Nat.le_refl _) hr
    · have h1 := List.all_eq_true.1 hc t (List.mem_range.2 htlt)
      simp only [Bool.or_eq_true, decide_eq_true_eq] at h1
      rcases h1 with h1 | h1
      · omega
      · obtain ⟨o', ho', e, hel, hb, hon⟩ := Region.waitsFor_spec h1
        have : o' = ot := Option.some.inj (ho'.symm.trans hot)
        subst this
        have h2 := hall e hel hb
        rw [hon, getD_both (inv.tail (t - 1) (by omega) (by omega))] at h2
        cases h2

theorem headQ_first {k0 n i : Nat} {oi : Oper} {v : Value} {L : Array Bool → Act → Prop} (hi : ops[i]? = some oi) (hsel : ∀ (j : Nat) (o : Oper) cs b, ops[j]? = some o → o.op ≠ .select cs b)
    (hs : sinkK md ops k0 n = true) (hc : Region.chainB md ops n = true) (hn : n < ops.size) (hin : i < n) (hend : ∀ done a, L done a → ∀ j ∈ Region.ready md ops done, n ≤ j) :
    ∀ (f : Nat) (done : Array Bool) (a : Act), HeadInv md ops n done → Early k0 done →
      (∀ j oj, ops[j]? = some oj → j ≠ i → done.getD j true = false → (∀ e ∈ oj.after, Region.binds md e = true → e.on ≠ i) → oi.apart ops oj = true) →
      i ∈ Region.ready md ops done → YieldsIn P ops C oi v a →
      headQ P md ops C n L f (done.setIfInBounds i true) (a.put oi.dst v) → headQ P md ops C n L (f + 1) done a := by
  intro f
  induction f with
  | zero =>
    intro done a inv he _ hr hy H
    have open_i := (mem_ready.1 hr).1
    refine ⟨List.ne_nil_of_mem hr, fun j hj => ?_⟩
    have hjn : j < n := Nat.lt_of_not_le fun h => tail_waitsK hs hc hn inv he _ i rfl hin open_i j h hj
    by_cases hji : j = i
    · subst hji; exact ⟨hjn, hy.qOp hi H⟩
    · exact absurd (hend _ _ H j (ready_mono hj hji)) (by omega)
  | succ f ih =>
    intro done a inv he hfree hr hy H
    have open_i := (mem_ready.1 hr).1
    refine ⟨List.ne_nil_of_mem hr, fun j hj => ?_⟩
    have hjn : j < n := Nat.lt_of_not_le fun h => tail_waitsK hs hc hn inv he _ i rfl hin open_i j h hj
    by_cases hji : j = i
    · subst hji; exact ⟨hjn, hy.qOp hi H⟩
    · have next := (H.2 j (ready_mono hj hji)).2
      obtain ⟨open_j, oj, hoj, hall⟩ := mem_ready.1 hj
      have hnot : ∀ e ∈ oj.after, Region.binds md e = true → e.on ≠ i := fun e he hb heq => by
        have h1 := hall e he hb
        rw [heq, getD_both open_i] at h1
        cases h1
      have moved := qOp_put hoj (hfree j oj hoj hji open_j hnot) (fun cs b => hsel i oi cs b hi) (fun cs b => hsel j oj cs b hoj) hy next
      refine ⟨hjn, qOp_mono (fun a' h3 => ih (done.setIfInBounds j true) a' (inv.set hj hjn) he.set (fun k ok hk hki hun hno => ?_) (ready_mono hr (Ne.symm hji)) h3.1 ?_) moved⟩
      · refine hfree k ok hk hki ?_ hno
        by_cases hjk : j = k
        · subst hjk; exact open_j
        · rw [getD_set_ne true hjk] at hun; exact hun
      · rw [Array.setIfInBounds_comm _ _ hji]
        exact h3.2

theorem headQ_lex {k0 n g : Nat} {Lq : Act → Prop} (hsel : Region.noSelect ops = true) (hs : sinkK md ops k0 n = true) (hc : Region.chainB md ops n = true) (hn : n < ops.size) :
    ∀ (l : List Oper) (k : Nat) (done : Array Bool) (a : Act), (∀ j, j < l.length → l[j]? = ops[k + j]?) → k + l.length = n → HeadInv md ops n done → Early k0 done →
    Region.lexHead md ops g l.length k done = true → wpQuiet P ops C Lq l a →
    headQ P md ops C n (fun done' a' => Region.seqB md ops g n done' = true ∧ Lq a') l.length done a
  | [], k, done, a, _, hk, _, _, hB, h => by
    have : k = n := by simpa using hk
    subst this
    exact ⟨by simpa [Region.lexHead] using hB, h⟩
  | o :: l, k, done, a, hl, hk, inv, he, hB, h => by
    have h0 : ops[k]? = some o := by simpa using (hl 0 (by simp)).symm
    simp only [List.length_cons, Region.lexHead, Bool.and_eq_true] at hB
    simp only [List.length_cons] at hk
    have hr : k ∈ Region.ready md ops done := by simpa using hB.1.1
    have hst : qOp P ops C k (wpQuiet P ops C Lq l) a := by unfold qOp; simp only [h0]; exact h
    obtain ⟨v, hy, hK⟩ := yieldsIn_of_qOp h0 hst
    exact headQ_first h0 (Region.noSelect_spec hsel) hs hc hn (by omega) (fun done' a' hL => seqB_ready hL.1) l.length done a inv he (Region.free_spec h0 hB.1.2) hr hy
      (headQ_lex hsel hs hc hn l (k + 1) _ _ (fun j hj => by have := hl (j + 1) (by simp; omega); simpa [Nat.add_assoc, Nat.add_comm 1 j] using this) (by omega) (inv.set hr (by omega)) he.set hB.2 hK)

/-- From a state in which the first `k0` operations are done. -/
theorem wpAny_mild {Q : Exit → Act → World → Prop} {a : Act} {l : List Oper} (k0 n : Nat) (D : Array Bool) (C : World → Prop) (hk : k0 ≤ n) (hsel : Region.noSelect l.toArray = true) (hn : n < l.toArray.size)
    (hs : sinkK .any l.toArray k0 n = true) (hc : Region.chainB .any l.toArray n = true) (inv0 : HeadInv .any l.toArray n D) (he : Early k0 D)
    (hlex : Region.lexHead .any l.toArray (l.toArray.size - n) (n - k0) k0 D = true) (hC : C w)
    (h : wpQuiet P l.toArray C (fun a' => ∀ w', C w' → wpList P l.toArray Q (l.drop n) a' w') ((l.take n).drop k0) a) : wpAny P .any l.toArray Q (l.toArray.size - k0) D a w := by
  have hn' : n < l.length := by simpa using hn
  have htl : ((l.take n).drop k0).length = n - k0 := by rw [List.length_drop, List.length_take, Nat.min_eq_left (by omega)]
  have hdl : (l.drop n).length = l.toArray.size - n := by simp
  have H := headQ_lex (P := P) (C := C) (md := .any) (k0 := k0) (g := l.toArray.size - n) hsel hs hc hn ((l.take n).drop k0) k0 D a (fun j hj => by
    rw [htl] at hj
    rw [List.getElem?_drop, List.getElem?_take, if_pos (by omega)]
    simp) (by rw [htl]; omega) inv0 he (by rw [htl]; exact hlex) h
  have := headQ_any (Q' := Q) (g := l.toArray.size - n) (fun done a' w' hw' hL => by
    have := wpAny_of_seq (md := .any) (Q' := Q) (l.drop n) n done a' w' (fun j => by simp [List.getElem?_drop]) (by rw [hdl]; exact hL.1) (hL.2 w' hw')
    rwa [hdl] at this) _ _ _ w hC H
  rw [htl, show n - k0 + (l.toArray.size - n) = l.toArray.size - k0 by simp; omega] at this
  exact this

theorem headInv_start (l : List Oper) (n : Nat) : HeadInv .any l.toArray n (Array.replicate l.toArray.size false) :=
  ⟨by simp, fun j oj _ hl => (by rw [getD_replicate_false] at hl; cases hl), fun t _ ht => getD_in (by simpa using ht) (getD_replicate_false _ _)⟩

def mildB (l : List Oper) (n : Nat) : Bool :=
  Region.noSelect l.toArray && decide (n < l.toArray.size) && sinkK .any l.toArray 0 n && Region.chainB .any l.toArray n && Region.lexHead .any l.toArray (l.toArray.size - n) n 0 (Array.replicate l.toArray.size false)
/-- A region that draws its order: its first `n` operations yield the same in every world of a class, and leave a world of the class; then its last ones, in their order. -/
theorem wp_region_mild_tail {id : Nat} {Q : Exit → Act → World → Prop} {a : Act} {l : List Oper} (n : Nat) (C : World → Prop) (hm : P.follows .mixedOrders = true) (hB : mildB l n = true) (hC : C w.drew)
    (h : wpQuiet P l.toArray C (fun a' => ∀ w', C w' → wpList P l.toArray Q (l.drop n) a' w') (l.take n) a) : (Code.region id l.toArray true).wp P Q a w := by
  simp only [mildB, Bool.and_eq_true, decide_eq_true_eq] at hB
  obtain ⟨⟨⟨⟨hsel, hn⟩, hs⟩, hc⟩, hlex⟩ := hB
  exact wp_region_any hm (wpAny_mild (w := w.drew) 0 n _ C (Nat.zero_le _) hsel hn hs hc (headInv_start l n) (fun i hi => absurd hi (Nat.not_lt_zero _)) hlex hC h)

def movedB (l : List Oper) (n : Nat) : Bool :=
  Region.noSelect l.toArray && decide (n < l.toArray.size) && sinkK .any l.toArray 1 n && Region.chainB .any l.toArray n && decide (1 ≤ n) &&
    (Region.ready .any l.toArray (Array.replicate l.toArray.size false)).contains 0 && Region.free .any l.toArray (Array.replicate l.toArray.size false) 0 &&
    Region.lexHead .any l.toArray (l.toArray.size - n) (n - 1) 1 ((Array.replicate l.toArray.size false).setIfInBounds 0 true)
/-- The same behind a first operation that moves a value: it may be taken first. -/
theorem wp_region_moved_tail {id : Nat} {Q : Exit → Act → World → Prop} {a : Act} {o : Oper} {l : List Oper} {x : Operand} (n : Nat) (C : World → Prop) (hm : P.follows .mixedOrders = true) (ho : o.op = .move x) (hg : o.guard = none)
    (hQ : ∀ c (a' : Act) v w, Q (.panic c) (a'.put o.dst v) w → Q (.panic c) a' w) (hB : movedB (o :: l) n = true) (hC : C w.drew)
    (h : wpQuiet P (o :: l).toArray C (fun a' => ∀ w', C w' → wpList P (o :: l).toArray Q ((o :: l).drop n) a' w') (((o :: l).take n).drop 1) (a.put o.dst (a.eval x))) : (Code.region id (o :: l).toArray true).wp P Q a w := by
  simp only [movedB, Bool.and_eq_true, decide_eq_true_eq] at hB
  obtain ⟨⟨⟨⟨⟨⟨⟨hsel, hn⟩, hs⟩, hc⟩, h1⟩, hr⟩, hf⟩, hlex⟩ := hB
  have hr' : 0 ∈ Region.ready .any (o :: l).toArray (Array.replicate (o :: l).toArray.size false) := by simpa using hr
  have hsz : (o :: l).toArray.size = ((o :: l).toArray.size - 1) + 1 := by simp
  refine wp_region_any hm ?_
  rw [hsz]
  refine wpAny_first (i := 0) (oi := o) (v := a.eval x) (by simp) (Region.noSelect_spec hsel) (fun c a' w' h' => hQ c a' _ w' h') _ _ _ _ (Region.free_spec (by simp) hf) hr' (.inl ⟨by simp [Region.wanted, hg], fun w' => BigFrame.run_move x ho w'⟩) ?_
  · exact wpAny_mild (w := w.drew) 1 n _ C h1 hsel hn hs hc ((headInv_start (o :: l) n).set hr' (by omega)) (fun i hi => by
      have : i = 0 := by omega
      subst this
      simp) hlex hC h
end

/-- All worlds in which old memory stands, as the values of a function: so that what holds of its cells is a plain equation. -/
theorem exists_ext (W : World) : ∃ ext : World → World, (∀ x, Below W.heap.size W (ext x)) ∧ ∀ w', Below W.heap.size W w' → w' = ext w' := by
  classical
  refine ⟨fun x => if Below W.heap.size W x then x else W, fun x => ?_, fun w' h => ?_⟩
  · show Below W.heap.size W (if Below W.heap.size W x then x else W)
    split
    · assumption
    · exact Below.refl _ _
  · show w' = if Below W.heap.size W w' then w' else W
    rw [if_pos h]
end Go.Proofs.YtcgihpfanfbonaaGreatDoor
namespace Go.Proofs.YtcgihpfanfbonaaGreatDoor
open Go.RowKit
set_option linter.unusedVariables false
set_option linter.unusedSimpArgs false

theorem info_bool : (Tryz.prog.info? 4).map (fun i => (i.zero, i.size, i.bytes)) = some (some (.bool false), 1, 1) := by kernel_rfl
theorem info_bools : (Tryz.prog.info? 137).map (fun i => (i.zero, i.size, i.bytes)) = some (some (.slice none 0 0), 1, 24) := by kernel_rfl

/-- The upper row, when `k` rows are made. -/
def matTop (N n k : Nat) : Nat → Value := fun j => if j < k then .slice (some ⟨N + 1 + j, 0, none⟩) n n else .slice none 0 0
/-- A square of truth values in memory that a call has made: `k` rows of it are there. -/
structure Mat (w : World) (N n k : Nat) (X : Nat → Nat → Bool) : Prop where
  size : N + 1 + k ≤ w.heap.size
  top : w.rowIs N 137 n (matTop N n k)
  rows : ∀ j, j < k → w.rowIs (N + 1 + j) 4 n (fun c => .bool (X j c))

theorem Mat.congr {w : World} {N n k : Nat} {X Y : Nat → Nat → Bool} (h : Mat w N n k X) (hXY : ∀ i j, i < k → j < n → X i j = Y i j) : Mat w N n k Y :=
  ⟨h.size, h.top, fun j hj => (h.rows j hj).congr (fun c hc => by rw [hXY j c hj hc])⟩
theorem Mat.alloc {w : World} {N n k : Nat} {X : Nat → Nat → Bool} (h : Mat w N n k X) (o : Obj) : Mat (w.alloc o) N n k X :=
  ⟨by have := h.size; simp; omega, h.top.alloc o, fun j hj => (h.rows j hj).alloc o⟩
theorem Mat.drew {w : World} {N n k : Nat} {X : Nat → Nat → Bool} (h : Mat w N n k X) : Mat w.drew N n k X :=
  ⟨h.size, h.top.drew, fun j hj => (h.rows j hj).drew⟩
theorem Mat.start (w : World) (n : Nat) (X : Nat → Nat → Bool) : Mat (w.alloc (.cells (madeCells #[.slice none 0 0] n) 137)) w.heap.size n 0 X :=
  ⟨by simp, (World.rowIs_made w _ n _).congr (fun j _ => by simp [matTop]), fun j hj => absurd hj (Nat.not_lt_zero _)⟩
def setAt (X : Nat → Nat → Bool) (i j : Nat) (b : Bool) : Nat → Nat → Bool := fun a c => if a = i ∧ c = j then b else X a c
theorem Mat.set {w : World} {N n k : Nat} {X : Nat → Nat → Bool} (h : Mat w N n k X) {i j : Nat} (hi : i < k) (hj : j < n) (b : Bool) : Mat (w.setCell ⟨N + 1 + i, j, none⟩ (.bool b)) N n k (setAt X i j b) := by
  refine ⟨by have := h.size; simpa [World.setCell] using this, h.top.setOther (by show N ≠ N + 1 + i; omega) _, fun r hr => ?_⟩
  by_cases e : r = i
  · subst e
    refine ((h.rows r hr).set j _).congr (fun c hc => ?_)
    by_cases e2 : c = j
    · subst e2; simp [setAt]
    · simp [setAt, e2]
  · refine ((h.rows r hr).setOther (by show N + 1 + r ≠ N + 1 + i; omega) _).congr (fun c hc => ?_)
    simp [setAt, e]
theorem Mat.row {w : World} {N n : Nat} {X : Nat → Nat → Bool} (h : Mat w N n n X) {i : Nat} (hi : i < n) : w.cell? ⟨N, i, none⟩ = some (.slice (some ⟨N + 1 + i, 0, none⟩) n n) := by
  have := h.top.cell hi
  rw [this, matTop, if_pos hi]
theorem Mat.cell {w : World} {N n : Nat} {X : Nat → Nat → Bool} (h : Mat w N n n X) {i j : Nat} (hi : i < n) (hj : j < n) : w.cell? ⟨N + 1 + i, j, none⟩ = some (.bool (X i j)) := (h.rows i hi).cell hj
theorem Mat.free {w : World} {N n : Nat} {X : Nat → Nat → Bool} (h : Mat w N n n X) {i j : Nat} (hi : i < n) : w.frozen? ⟨N + 1 + i, j, none⟩ = false := (h.rows i hi).frozen j

/-- Row `k` is made, and filled but for its own place. -/
theorem Mat.newRow {w : World} {N n k : Nat} (h : Mat w N n k (fun i j => i == j)) (hs : w.heap.size = N + 1 + k) (hk : k < n) :
    Mat (((w.alloc (.cells (madeCells #[.bool false] n) 4)).setCell ⟨N, k, none⟩ (.slice (some ⟨w.heap.size, 0, none⟩) n n)).setCell ⟨w.heap.size, k, none⟩ (.bool true)) N n (k + 1) (fun i j => i == j) := by
  have hnew := World.rowIs_made w (.bool false) n 4
  rw [hs] at hnew ⊢
  refine ⟨by simp [World.setCell, hs]; omega, ((((h.top.alloc _).set k _)).setOther (by show N ≠ N + 1 + k; omega) _).congr (fun j _ => ?_), fun j hj => ?_⟩
  · simp only [matTop]
    by_cases e : j = k
    · subst e; simp
    · rw [if_neg e]
      by_cases hlt : j < k
      · rw [if_pos hlt, if_pos (by omega)]
      · rw [if_neg hlt, if_neg (by omega)]
  · by_cases e : j = k
    · subst e
      refine ((hnew.setOther (by show N + 1 + j ≠ N; omega) _).set j _).congr (fun c hc => ?_)
      by_cases e : c = j
      · subst e; simp
      · have : (j == c) = false := by simp; omega
        simp [e, this]
    · exact (((h.rows j (by omega)).alloc _).setOther (by show N + 1 + j ≠ N; omega) _).setOther (by show N + 1 + j ≠ N + 1 + k; omega) _

/-- Each for itself, and by the first pairs. -/
def edgeM (l : List Txt) (acts : List (Txt × Txt)) (i j : Nat) : Bool := i == j || acts.any fun a => idxOf l a.1 == (i : Int) && idxOf l a.2 == (j : Int)
/-- Who acts for whom, by their numbers. -/
def closM (l : List Txt) (acts : List (Txt × Txt)) : Nat → Nat → Bool := war (edgeM l acts) l.length
theorem idxOf_has {l : List Txt} {x : Txt} (h : has l x = true) : ∃ i : Nat, idxOf l x = i ∧ i < l.length ∧ l[i]? = some x := by
  have hm := idxOf_mem l x
  rw [show l.contains x = true from h] at hm
  unfold idxOf at hm ⊢
  cases e : l.idxOf? x with
  | none => rw [e] at hm; simp at hm
  | some i =>
    rw [List.idxOf?, List.findIdx?_eq_some_iff_getElem] at e
    obtain ⟨hi, he, _⟩ := e
    exact ⟨i, rfl, hi, by rw [List.getElem?_eq_getElem hi]; simpa using he⟩
theorem edgeM_snoc (l : List Txt) (acts : List (Txt × Txt)) {k : Nat} (hk : k < acts.length) {i j : Nat} (hi : idxOf l acts[k].1 = i) (hj : idxOf l acts[k].2 = j) (a c : Nat) :
    setAt (edgeM l (acts.take k)) i j true a c = edgeM l (acts.take (k + 1)) a c := by
  unfold setAt edgeM
  rw [List.take_succ_eq_append_getElem hk]
  simp only [List.any_append, List.any_cons, List.any_nil, hi, hj, Bool.or_false]
  by_cases e : a = i ∧ c = j
  · obtain ⟨rfl, rfl⟩ := e; simp
  · rw [if_neg e]
    have : ((i : Int) == (a : Int) && (j : Int) == (c : Int)) = false := by
      rw [Bool.and_eq_false_iff]
      by_cases h1 : a = i
      · right; simp; omega
      · left; simp; omega
    rw [this]; simp

/-- In the midst of a round over the middle `k`. -/
def warMid (m : Nat → Nat → Bool) (k i j a c : Nat) : Bool := if a < i ∨ (a = i ∧ c < j) then warRound m k a c else m a c
theorem warMid_start (m : Nat → Nat → Bool) (k a c : Nat) : warMid m k 0 0 a c = m a c := by simp [warMid]
theorem warMid_row (m : Nat → Nat → Bool) (k i n : Nat) {a c : Nat} (hc : c < n) : warMid m k i n a c = warMid m k (i + 1) 0 a c := by
  simp only [warMid]
  by_cases h : a < i ∨ (a = i ∧ c < n)
  · rw [if_pos h, if_pos (by omega)]
  · rw [if_neg h, if_neg (by omega)]
theorem warMid_end (m : Nat → Nat → Bool) (k n : Nat) {a c : Nat} (ha : a < n) : warMid m k n 0 a c = warRound m k a c := by
  simp only [warMid]; rw [if_pos (by omega)]
/-- What is read in the midst of a round is what stood at its start. -/
theorem warMid_ij (m : Nat → Nat → Bool) (k i j : Nat) : warMid m k i j i j = m i j := by simp [warMid]
theorem warMid_ik (m : Nat → Nat → Bool) (k i j : Nat) (hr : m k k = true) : warMid m k i j i k = m i k := by
  simp only [warMid]; split
  · exact warRound_col m k i hr
  · rfl
theorem warMid_kj (m : Nat → Nat → Bool) (k i j : Nat) (hr : m k k = true) : warMid m k i j k j = m k j := by
  simp only [warMid]; split
  · exact warRound_row m k j hr
  · rfl
theorem warMid_set (m : Nat → Nat → Bool) (k i j : Nat) (a c : Nat) : setAt (warMid m k i j) i j (warRound m k i j) a c = warMid m k i (j + 1) a c := by
  simp only [setAt, warMid]
  by_cases e : a = i ∧ c = j
  · obtain ⟨rfl, rfl⟩ := e
    simp
  · rw [if_neg e]
    by_cases h : a < i ∨ (a = i ∧ c < j)
    · rw [if_pos h, if_pos (by omega)]
    · rw [if_neg h, if_neg (by omega)]

set_option maxHeartbeats 1000000 in
set_option maxRecDepth 100000 in
theorem closure_calls (l : List Txt) (acts : List (Txt × Txt)) (v u : Value) (w : World) (hv : Strs w l v) (hu : Prs w acts u) (h1 : l.length ≤ 6) (h2 : acts.length ≤ 10) (ha : ∀ j (hj : j < acts.length), actOk l acts[j] = true) :
    Calls Tryz.prog 88 #[v, u] w fun e w' => e = .returned (.slice (some ⟨w.heap.size, 0, none⟩) l.length l.length) ∧ Mat w' w.heap.size l.length l.length (closM l acts) ∧ Below w.heap.size w w' := by
  have hv0 := hv
  obtain ⟨b, o, c, p, rfl, hlc, hc, hp, hcells⟩ := hv.cells
  obtain ⟨b2, o2, c2, p2, rfl, hlc2, hc2, hp2, hcells2⟩ := hu.cells
  clear hv hu
  have hmk1 := run_make_row' (P := Tryz.prog) 135 137 (.slice none 0 0) 24 Tryz.underlying135 info_bools rfl .i64 .i64 l.length (by omega) (by omega)
  have hmk2 := run_make_row' (P := Tryz.prog) 137 4 (.bool false) 1 Tryz.underlying137 info_bool rfl .i64 .i64 l.length (by omega) (by omega)
  go_enter Tryz.func88, Tryz.ntmps88
  go_wp2
  go_loopw [6, 17] (fun _ i wr => ∃ k : Nat, k ≤ l.length ∧ i = .int .i64 k ∧ Below w.heap.size w wr ∧ wr.heap.size = w.heap.size + 1 + k ∧ Mat wr w.heap.size l.length k (fun i j => i == j)) (fun _ i _ => l.length - (intOf i).toNat)
  case atStart => exact ⟨0, Nat.zero_le _, rfl, (Below.refl _ _).alloc (Nat.le_refl _) _, by simp, Mat.start w l.length _⟩
  case round =>
    obtain ⟨k, hk, rfl, hb, hs, hM⟩ := hrel
    have HS := Lib.hid hs
    clear hs
    by_cases hlt : k < l.length
    · have hst1 : ∀ o, (wr.alloc o).cell? ⟨w.heap.size, k, none⟩ = some (matTop w.heap.size l.length k k) := fun o => (hM.top.alloc o).cell hlt
      have hst2 : ∀ o, (wr.alloc o).frozen? ⟨w.heap.size, k, none⟩ = false := fun o => (hM.top.alloc o).frozen k
      have hst3 : ∀ v, ((wr.alloc (.cells (madeCells #[.bool false] l.length) 4)).setCell ⟨w.heap.size, k, none⟩ v).cell? ⟨wr.heap.size, k, none⟩ = some (.bool false) := fun v => by
        have := HS.out
        rw [World.cell?_setCell_other _ _ _ _ (fun e => by have := congrArg Addr.block e; simp at this; omega), World.cell?_alloc_mark]
        simp [madeCells, hlt, Nat.mod_one]
      have hst4 : ∀ v, ((wr.alloc (.cells (madeCells #[.bool false] l.length) 4)).setCell ⟨w.heap.size, k, none⟩ v).frozen? ⟨wr.heap.size, k, none⟩ = false := fun v => by
        rw [World.frozen?_setCell]
        exact (World.rowIs_made wr (.bool false) l.length 4).frozen k
      clear hp hp2 hcells hcells2
      go_wp2
      go_roundw
      case rel =>
        refine ⟨k + 1, by omega, by go_num, ?_, ?_, ?_⟩
        · exact ((hb.alloc hb.size _).setCell (Nat.le_refl _) _).setCell (by have := HS.out; show w.heap.size ≤ wr.heap.size; omega) _
        · simp [World.setCell, HS.out]; omega
        · exact Mat.newRow hM HS.out hlt
      case measure => simp [intOf]; omega
    · obtain rfl : k = l.length := by omega
      clear hmk1 hmk2 hp hcells
      have HA := Lib.hid ha
      clear ha
      have hM0 : Mat wr w.heap.size l.length l.length (edgeM l (acts.take 0)) := hM.congr (fun i j _ _ => by simp [edgeM])
      go_wp2
      go_loopw [8, 35] (fun _ i wr => ∃ k : Nat, k ≤ acts.length ∧ i = .int .i64 k ∧ Below w.heap.size w wr ∧ Mat wr w.heap.size l.length l.length (edgeM l (acts.take k))) (fun _ i _ => acts.length - (intOf i).toNat)
      case atStart => exact ⟨0, Nat.zero_le _, rfl, hb, hM0⟩
      case round =>
        clear hb hM hM0 HS
        obtain ⟨k, hk, rfl, hb, hM⟩ := hrel
        by_cases hlt : k < acts.length
        · have hact := HA.out k hlt
          unfold actOk at hact
          rw [Bool.and_eq_true] at hact
          obtain ⟨i1, e1, g1, _⟩ := idxOf_has hact.1
          obtain ⟨i2, e2, g2, _⟩ := idxOf_has hact.2
          obtain ⟨hc1, hc2'⟩ := hcells2 k hlt
          have hcell1 : wr.cell? ⟨b2, o2 + k * 2, none⟩ = some (.string acts[k].1) := (hb.cell (cell_lt hc1)).trans hc1
          have hcell2 : wr.cell? ⟨b2, o2 + k * 2 + 1, none⟩ = some (.string acts[k].2) := (hb.cell (cell_lt hc2')).trans hc2'
          have HX : Hid (∀ a c, setAt (edgeM l (acts.take k)) i1 i2 true a c = edgeM l (acts.take (k + 1)) a c) := edgeM_snoc l acts hlt e1 e2
          have hI1 : ∀ w', Below w.heap.size w w' → Calls Tryz.prog 52 #[.slice p l.length c, .string acts[k].1] w' fun e w'' => e = .returned (.int .i64 i1) ∧ w'' = w' := fun w' hb' => by
            rw [← e1]; exact (index_calls l _ _ _ (hv0.stays (keeps_of_below hb'))).mono fun _ _ h => ⟨h.1, h.2.symm⟩
          have hI2 : ∀ w', Below w.heap.size w w' → Calls Tryz.prog 52 #[.slice p l.length c, .string acts[k].2] w' fun e w'' => e = .returned (.int .i64 i2) ∧ w'' = w' := fun w' hb' => by
            rw [← e2]; exact (index_calls l _ _ _ (hv0.stays (keeps_of_below hb'))).mono fun _ _ h => ⟨h.1, h.2.symm⟩
          have HI1 := Lib.hid hI1
          have HI2 := Lib.hid hI2
          obtain rfl := hp2 (by omega)
          clear hp2 hcells2 hc1 hc2' hact hI1 hI2 e1 e2
          have e61 : ∀ args w, (callFunc 52 args).run Tryz.prog w = .ok (.enter 52 args) w := enters_at Tryz.func52 (by kernel_rfl) rfl
          go_wp2
          have hM2 := (hM.alloc (.cells #[.string acts[k].1, .string acts[k].2] 99)).drew
          have hb2 := (hb.alloc hb.size (.cells #[.string acts[k].1, .string acts[k].2] 99)).drew
          have hx0 : (wr.alloc (.cells #[.string acts[k].1, .string acts[k].2] 99)).drew.cell? ⟨wr.heap.size, 0, none⟩ = some (.string acts[k].1) := World.cell?_alloc_mark _ _ _ _ _
          have hx1 : (wr.alloc (.cells #[.string acts[k].1, .string acts[k].2] 99)).drew.cell? ⟨wr.heap.size, 1, none⟩ = some (.string acts[k].2) := World.cell?_alloc_mark _ _ _ _ _
          refine wp_region_still_tail 12 (by kernel_rfl) (by kernel_rfl) ?_
          change wpStill _ _ (wr.alloc (.cells #[.string acts[k].1, .string acts[k].2] 99)).drew (fun a' => wpList _ _ _ _ a' (wr.alloc (.cells #[.string acts[k].1, .string acts[k].2] 99)).drew) _ _
          generalize (wr.alloc (.cells #[.string acts[k].1, .string acts[k].2] 99)).drew = W2 at *
          simp only [List.take_succ_cons, List.take_zero, List.drop_succ_cons, List.drop_zero]
          have hr1 := hM2.row g1
          have hfr := hM2.free (j := i2) g1
          have hce := hM2.cell g1 g2
          have hC1 := HI1.out _ hb2
          have hC2 := HI2.out _ hb2
          clear hcell1 hcell2
          repeat still_step
          still_call hC1
          repeat still_step
          still_call hC2
          repeat still_step
          refine wpStill_nil ?_
          go_wp2
          go_roundw
          case rel =>
            refine ⟨k + 1, by omega, by go_num, hb2.setCell (by show w.heap.size ≤ w.heap.size + 1 + i1; omega) _, ?_⟩
            exact (hM2.set g1 g2 true).congr fun a c _ _ => HX.out a c
          case measure => simp [intOf]; omega
        · obtain rfl : k = acts.length := by omega
          rw [List.take_length] at hM
          clear hp2 hcells2 HA
          have hM0 : Mat wr w.heap.size l.length l.length (war (edgeM l acts) 0) := hM
          go_wp2
          go_loopw [9, 10, 11, 54, 59, 64] (fun _ _ _ i _ _ wr => ∃ k : Nat, k ≤ l.length ∧ i = .int .i64 k ∧ Below w.heap.size w wr ∧ Mat wr w.heap.size l.length l.length (war (edgeM l acts) k)) (fun _ _ _ i _ _ _ => l.length - (intOf i).toNat)
          case atStart => exact ⟨0, Nat.zero_le _, rfl, hb, hM0⟩
          case round =>
            clear hb hM hM0
            obtain ⟨k, hk, rfl, hb, hM⟩ := hrel
            by_cases hlt : k < l.length
            · have hM1 : Mat wr w.heap.size l.length l.length (warMid (war (edgeM l acts) k) k 0 0) := hM.congr fun a c _ _ => (warMid_start _ k a c).symm
              have HR : Hid (war (edgeM l acts) k k k = true) := war_refl _ (fun i => by simp [edgeM]) k k
              go_wp2
              go_loopw [10, 11, 59, 64] (fun _ _ i _ wr => ∃ i' : Nat, i' ≤ l.length ∧ i = .int .i64 i' ∧ Below w.heap.size w wr ∧ Mat wr w.heap.size l.length l.length (warMid (war (edgeM l acts) k) k i' 0)) (fun _ _ i _ _ => l.length - (intOf i).toNat)
              case atStart => exact ⟨0, Nat.zero_le _, rfl, hb, hM1⟩
              case round =>
                clear hb hM hM1
                obtain ⟨i, hi, rfl, hb, hM⟩ := hrel
                by_cases hlti : i < l.length
                · go_wp2
                  go_loopw [11, 64] (fun _ j wr => ∃ j' : Nat, j' ≤ l.length ∧ j = .int .i64 j' ∧ Below w.heap.size w wr ∧ Mat wr w.heap.size l.length l.length (warMid (war (edgeM l acts) k) k i j')) (fun _ j _ => l.length - (intOf j).toNat)
                  case atStart => exact ⟨0, Nat.zero_le _, rfl, hb, hM⟩
                  case round =>
                    clear hb hM
                    obtain ⟨j, hj, rfl, hb, hM⟩ := hrel
                    by_cases hltj : j < l.length
                    · go_wp2
                      have hM2 := hM.drew
                      have hb2 := hb.drew
                      have r1 := hM2.row hlti
                      have r2 := hM2.row hlt
                      have c1 := hM2.cell hlti hltj
                      have c2 := hM2.cell hlti hlt
                      have c3 := hM2.cell hlt hltj
                      have f1 := hM2.free (j := j) hlti
                      rw [warMid_ij] at c1
                      rw [warMid_ik _ _ _ _ HR.out] at c2
                      rw [warMid_kj _ _ _ _ HR.out] at c3
                      cases hij : war (edgeM l acts) k i j with
                      | true =>
                        have HV : Hid (warRound (war (edgeM l acts) k) k i j = true) := by show warRound (war (edgeM l acts) k) k i j = true; unfold warRound; rw [hij]; rfl
                        rw [hij] at c1
                        clear hij c2 c3 hb hM
                        refine wp_region_calm_tail 31 (by kernel_rfl) (by kernel_rfl) ?_
                        generalize wr.drew = W2 at *
                        simp only [List.take_succ_cons, List.take_zero, List.drop_succ_cons, List.drop_zero]
                        repeat go_big_quiet_step (fail)
                        refine wpQuiet_nil ?_
                        go_wp2
                        go_roundw
                        case rel =>
                          refine ⟨j + 1, by omega, by go_num, hb2.setCell (by show w.heap.size ≤ w.heap.size + 1 + i; omega) _, ?_⟩
                          exact (hM2.set hlti hltj true).congr fun a c _ _ => by rw [← HV.out]; exact warMid_set _ k i j a c
                        case measure => simp [intOf]; omega
                      | false =>
                        rw [hij] at c1
                        cases hik : war (edgeM l acts) k i k with
                        | true =>
                          rw [hik] at c2
                          cases hkj : war (edgeM l acts) k k j with
                          | true =>
                            rw [hkj] at c3
                            have HV : Hid (warRound (war (edgeM l acts) k) k i j = true) := by show warRound (war (edgeM l acts) k) k i j = true; unfold warRound; rw [hij, hik, hkj]; rfl
                            clear hij hik hkj hb hM
                            refine wp_region_calm_tail 31 (by kernel_rfl) (by kernel_rfl) ?_
                            generalize wr.drew = W2 at *
                            simp only [List.take_succ_cons, List.take_zero, List.drop_succ_cons, List.drop_zero]
                            repeat go_big_quiet_step (fail)
                            refine wpQuiet_nil ?_
                            go_wp2
                            go_roundw
                            case rel =>
                              refine ⟨j + 1, by omega, by go_num, hb2.setCell (by show w.heap.size ≤ w.heap.size + 1 + i; omega) _, ?_⟩
                              exact (hM2.set hlti hltj true).congr fun a c _ _ => by rw [← HV.out]; exact warMid_set _ k i j a c
                            case measure => simp [intOf]; omega
                          | false =>
                            rw [hkj] at c3
                            have HV : Hid (warRound (war (edgeM l acts) k) k i j = false) := by show warRound (war (edgeM l acts) k) k i j = false; unfold warRound; rw [hij, hik, hkj]; rfl
                            clear hij hik hkj hb hM
                            refine wp_region_calm_tail 31 (by kernel_rfl) (by kernel_rfl) ?_
                            generalize wr.drew = W2 at *
                            simp only [List.take_succ_cons, List.take_zero, List.drop_succ_cons, List.drop_zero]
                            repeat go_big_quiet_step (fail)
                            refine wpQuiet_nil ?_
                            go_wp2
                            go_roundw
                            case rel =>
                              refine ⟨j + 1, by omega, by go_num, hb2.setCell (by show w.heap.size ≤ w.heap.size + 1 + i; omega) _, ?_⟩
                              exact (hM2.set hlti hltj false).congr fun a c _ _ => by rw [← HV.out]; exact warMid_set _ k i j a c
                            case measure => simp [intOf]; omega
                        | false =>
                          rw [hik] at c2
                          have HV : Hid (warRound (war (edgeM l acts) k) k i j = false) := by show warRound (war (edgeM l acts) k) k i j = false; unfold warRound; rw [hij, hik]; rfl
                          clear hij hik c3 hb hM
                          refine wp_region_calm_tail 31 (by kernel_rfl) (by kernel_rfl) ?_
                          generalize wr.drew = W2 at *
                          simp only [List.take_succ_cons, List.take_zero, List.drop_succ_cons, List.drop_zero]
                          repeat go_big_quiet_step (fail)
                          refine wpQuiet_nil ?_
                          go_wp2
                          go_roundw
                          case rel =>
                            refine ⟨j + 1, by omega, by go_num, hb2.setCell (by show w.heap.size ≤ w.heap.size + 1 + i; omega) _, ?_⟩
                            exact (hM2.set hlti hltj false).congr fun a c _ _ => by rw [← HV.out]; exact warMid_set _ k i j a c
                          case measure => simp [intOf]; omega
                    · obtain rfl : j = l.length := by omega
                      go_wp2
                      go_roundw
                      case rel => exact ⟨i + 1, by omega, by go_num, hb, hM.congr fun a c _ hc => warMid_row _ k i l.length hc⟩
                      case measure => simp [intOf]; omega
                · obtain rfl : i = l.length := by omega
                  go_wp2
                  go_roundw
                  case rel => exact ⟨k + 1, by omega, by go_num, hb, hM.congr fun a c ha _ => warMid_end _ k l.length ha⟩
                  case measure => simp [intOf]; omega
            · obtain rfl : k = l.length := by omega
              go_wp2
              go_ret
              exact ⟨rfl, hM, hb⟩
end Go.Proofs.YtcgihpfanfbonaaGreatDoor
