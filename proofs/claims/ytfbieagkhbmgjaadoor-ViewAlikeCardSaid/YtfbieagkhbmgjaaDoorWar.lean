/-
  Plain law: going round over all middles in turn (Warshall) gives just what is reached from one to the next.
-/
namespace Go.Proofs.YtfbieagkhbmgjaaDoor
set_option linter.unusedSimpArgs false

/-- From one to the other over middles below `k`. -/
inductive Via (E : Nat → Nat → Prop) (k : Nat) : Nat → Nat → Prop
  | refl (i : Nat) : Via E k i i
  | edge {i j : Nat} : E i j → Via E k i j
  | mid {i m j : Nat} : m < k → Via E k i m → Via E k m j → Via E k i j

theorem Via.mono {E : Nat → Nat → Prop} {k k' : Nat} (hk : k ≤ k') {i j : Nat} (h : Via E k i j) : Via E k' i j := by
  induction h with
  | refl i => exact .refl i
  | edge h => exact .edge h
  | mid hm _ _ h1 h2 => exact .mid (Nat.lt_of_lt_of_le hm hk) h1 h2

theorem Via.succ {E : Nat → Nat → Prop} {k i j : Nat} : Via E (k + 1) i j ↔ Via E k i j ∨ (Via E k i k ∧ Via E k k j) := by
  constructor
  · intro h
    induction h with
    | refl i => exact .inl (.refl i)
    | edge h => exact .inl (.edge h)
    | @mid i m j hm _ _ h1 h2 =>
      by_cases hk : m < k
      · rcases h1 with h1 | ⟨h1, h1'⟩ <;> rcases h2 with h2 | ⟨h2, h2'⟩
        · exact .inl (.mid hk h1 h2)
        · exact .inr ⟨.mid hk h1 h2, h2'⟩
        · exact .inr ⟨h1, .mid hk h1' h2⟩
        · exact .inr ⟨h1, h2'⟩
      · obtain rfl : m = k := by omega
        rcases h1 with h1 | ⟨h1, h1'⟩ <;> rcases h2 with h2 | ⟨h2, h2'⟩
        · exact .inr ⟨h1, h2⟩
        · exact .inr ⟨h1, h2'⟩
        · exact .inr ⟨h1, h2⟩
        · exact .inr ⟨h1, h2'⟩
  · rintro (h | ⟨h1, h2⟩)
    · exact h.mono (Nat.le_succ k)
    · exact .mid (Nat.lt_succ_self k) (h1.mono (Nat.le_succ k)) (h2.mono (Nat.le_succ k))

/-- One round over the middle `k`. -/
def warRound (m : Nat → Nat → Bool) (k i j : Nat) : Bool := m i j || (m i k && m k j)
/-- All rounds below `k`. -/
def war (m : Nat → Nat → Bool) : Nat → Nat → Nat → Bool
  | 0 => m
  | k + 1 => warRound (war m k) k

theorem war_via (m : Nat → Nat → Bool) (hr : ∀ i, m i i = true) (k i j : Nat) : war m k i j = true ↔ Via (fun a b => m a b = true) k i j := by
  induction k generalizing i j with
  | zero =>
    constructor
    · intro h; exact .edge h
    · intro h
      show m i j = true
      induction h with
      | refl i => exact hr i
      | edge h => exact h
      | mid hm => omega
  | succ k ih =>
    rw [Via.succ, ← ih, ← ih, ← ih]
    simp [war, warRound]

theorem war_refl (m : Nat → Nat → Bool) (hr : ∀ i, m i i = true) (k i : Nat) : war m k i i = true := (war_via m hr k i i).2 (.refl i)
/-- What stands in the round's own row and column stays. -/
theorem warRound_row (m : Nat → Nat → Bool) (k j : Nat) (hr : m k k = true) : warRound m k k j = m k j := by simp [warRound, hr]
theorem warRound_col (m : Nat → Nat → Bool) (k i : Nat) (hr : m k k = true) : warRound m k i k = m i k := by
  unfold warRound; rw [hr]; cases m i k <;> rfl

/-- From one to the next, as often as one likes. -/
inductive Reach (E : Nat → Nat → Prop) : Nat → Nat → Prop
  | refl (i : Nat) : Reach E i i
  | step {i j k : Nat} : E i j → Reach E j k → Reach E i k

theorem Reach.trans {E : Nat → Nat → Prop} {i j k : Nat} (h : Reach E i j) (h' : Reach E j k) : Reach E i k := by
  induction h with
  | refl i => exact h'
  | step e _ ih => exact .step e (ih h')
theorem Reach.mono {E F : Nat → Nat → Prop} (hEF : ∀ i j, E i j → F i j) {i j : Nat} (h : Reach E i j) : Reach F i j := by
  induction h with
  | refl i => exact .refl i
  | step e _ ih => exact .step (hEF _ _ e) ih
theorem Reach.lift {E F : Nat → Nat → Prop} (hEF : ∀ i j, E i j → Reach F i j) {i j : Nat} (h : Reach E i j) : Reach F i j := by
  induction h with
  | refl i => exact .refl i
  | step e _ ih => exact (hEF _ _ e).trans ih
theorem Via.reach {E : Nat → Nat → Prop} {k i j : Nat} (h : Via E k i j) : Reach E i j := by
  induction h with
  | refl i => exact .refl i
  | edge h => exact .step h (.refl _)
  | mid _ _ _ h1 h2 => exact h1.trans h2
theorem Reach.via {E : Nat → Nat → Prop} {n : Nat} (hn : ∀ i j, E i j → i ≠ j → j < n) {i j : Nat} (h : Reach E i j) : Via E n i j := by
  induction h with
  | refl i => exact .refl i
  | @step i j k e _ ih =>
    by_cases hij : i = j
    · subst hij; exact ih
    · exact .mid (hn _ _ e hij) (.edge e) ih

/-- Whoever is reached by the fewest pairs: `R` is who is over whom, among `n`, nobody over one who is over them. -/
structure Order (R : Nat → Nat → Prop) (n : Nat) : Prop where
  refl : ∀ i, i < n → R i i
  trans : ∀ i j k, i < n → j < n → k < n → R i j → R j k → R i k
  anti : ∀ i j, i < n → j < n → R i j → R j i → i = j

/-- Right over another one, nobody between. -/
def Right (R : Nat → Nat → Prop) (n i k : Nat) : Prop :=
  i < n ∧ k < n ∧ i ≠ k ∧ R i k ∧ ¬ ∃ j, j < n ∧ j ≠ i ∧ j ≠ k ∧ R i j ∧ R j k

theorem right_reach {R : Nat → Nat → Prop} {n : Nat} (h : Order R n) : ∀ (c i k : Nat), i < n → k < n → R i k →
    ((List.range n).filter fun j => decide (j ≠ i ∧ j ≠ k) && @decide (R i j ∧ R j k) (Classical.propDecidable _)).length ≤ c → Reach (Right R n) i k := by
  intro c
  induction c with
  | zero =>
    intro i k hi hk hR hc
    by_cases hik : i = k
    · subst hik; exact .refl i
    refine .step ⟨hi, hk, hik, hR, ?_⟩ (.refl k)
    rintro ⟨j, hj, h1, h2, h3, h4⟩
    have : j ∈ ((List.range n).filter fun j => decide (j ≠ i ∧ j ≠ k) && @decide (R i j ∧ R j k) (Classical.propDecidable _)) := by
      simp [h1, h2, h3, h4, hj]
    have := List.length_pos_of_mem this
    omega
  | succ c ih =>
    intro i k hi hk hR hc
    by_cases hik : i = k
    · subst hik; exact .refl i
    by_cases hb : ∃ j, j < n ∧ j ≠ i ∧ j ≠ k ∧ R i j ∧ R j k
    · obtain ⟨j, hj, h1, h2, h3, h4⟩ := hb
      have less : ∀ (p q : Nat → Bool) (l : List Nat), (∀ x, x ∈ l → p x = true → q x = true) → j ∈ l → q j = true → p j = false → (l.filter p).length + 1 ≤ (l.filter q).length := by
        intro p q l
        induction l with
        | nil => intro _ hm; simp at hm
        | cons y l ihl =>
          intro hpq hm hq hp
          have mono : (l.filter p).length ≤ (l.filter q).length := by
            clear ihl hm
            induction l with
            | nil => simp
            | cons z l ihz =>
              have := ihz (fun x hx => hpq x (by simp at hx ⊢; rcases hx with hx | hx <;> simp [hx]))
              have hz := hpq z (by simp)
              by_cases h : p z = true
              · simp [List.filter_cons, h, hz h]; exact this
              · simp only [List.filter_cons, h, if_false, Bool.false_eq_true]
                split <;> simp <;> omega
          by_cases hy : y = j
          · subst hy
            simp [List.filter_cons, hq, hp]; omega
          · have hm' : j ∈ l := by
              rcases List.mem_cons.1 hm with h | h
              · exact absurd h.symm hy
              · exact h
            have := ihl (fun x hx => hpq x (List.mem_cons_of_mem _ hx)) hm' hq hp
            have hz := hpq y (by simp)
            by_cases h : p y = true
            · simp [List.filter_cons, h, hz h]; omega
            · simp only [List.filter_cons, h, if_false, Bool.false_eq_true]
              split <;> simp <;> omega
      have a := ih i j hi hj h3 (by
        have := less (fun x => decide (x ≠ i ∧ x ≠ j) && @decide (R i x ∧ R x j) (Classical.propDecidable _)) (fun x => decide (x ≠ i ∧ x ≠ k) && @decide (R i x ∧ R x k) (Classical.propDecidable _)) (List.range n)
          (by
            intro x hx hp
            simp only [List.mem_range] at hx
            simp only [Bool.and_eq_true, decide_eq_true_eq] at hp ⊢
            obtain ⟨⟨p1, p2⟩, p3, p4⟩ := hp
            refine ⟨⟨p1, ?_⟩, p3, h.trans _ _ _ hx hj hk p4 h4⟩
            rintro rfl
            exact h2 (h.anti _ _ hj hk h4 p4))
          (by simpa using hj) (by simp [h1, h2, h3, h4]) (by simp)
        omega)
      have b := ih j k hj hk h4 (by
        have := less (fun x => decide (x ≠ j ∧ x ≠ k) && @decide (R j x ∧ R x k) (Classical.propDecidable _)) (fun x => decide (x ≠ i ∧ x ≠ k) && @decide (R i x ∧ R x k) (Classical.propDecidable _)) (List.range n)
          (by
            intro x hx hp
            simp only [List.mem_range] at hx
            simp only [Bool.and_eq_true, decide_eq_true_eq] at hp ⊢
            obtain ⟨⟨p1, p2⟩, p3, p4⟩ := hp
            refine ⟨⟨?_, p2⟩, h.trans _ _ _ hi hj hx h3 p3, p4⟩
            rintro rfl
            exact h1 (h.anti _ _ hj hi p3 h3))
          (by simpa using hj) (by simp [h1, h2, h3, h4]) (by simp)
        omega)
      exact a.trans b
    · exact .step ⟨hi, hk, hik, hR, hb⟩ (.refl k)

/-- The fewest pairs reach just whom one is over. -/
theorem right_iff {R : Nat → Nat → Prop} {n : Nat} (h : Order R n) {i k : Nat} (hi : i < n) (hk : k < n) : Reach (Right R n) i k ↔ R i k := by
  constructor
  · intro hr
    induction hr with
    | refl i => exact h.refl i hi
    | step e _ ih => exact h.trans _ _ _ hi e.2.1 hk e.2.2.2.1 (ih e.2.1 hk)
  · exact fun hR => right_reach h _ i k hi hk hR (Nat.le_refl _)

/-- Without one of them somebody isn't reached. -/
theorem right_less {R : Nat → Nat → Prop} {n : Nat} (h : Order R n) {i k : Nat} (hik : Right R n i k) : ¬ Reach (fun a b => Right R n a b ∧ ¬ (a = i ∧ b = k)) i k := by
  intro hr
  obtain ⟨hi, hk, hne, _, hno⟩ := hik
  cases hr with
  | refl => exact hne rfl
  | @step _ j _ e hr =>
    obtain ⟨⟨_, hj, hij, hRj, _⟩, hnot⟩ := e
    have hjk : R j k := (right_iff h hj hk).1 (hr.mono fun _ _ h => h.1)
    refine hno ⟨j, hj, fun e => hij e.symm, fun e => hnot ⟨rfl, e⟩, hRj, hjk⟩
end Go.Proofs.YtfbieagkhbmgjaaDoor
