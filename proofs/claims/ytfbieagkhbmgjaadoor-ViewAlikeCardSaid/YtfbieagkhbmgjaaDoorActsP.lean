/-
  Plain law: who acts for whom, found by going from one to the next.
-/
import Derived.Test.YtfbieagkhbmgjaaDoorSameP
namespace Go.Proofs.YtfbieagkhbmgjaaDoor
set_option linter.unusedVariables false
set_option linter.unusedSimpArgs false

/-- Somebody acts for somebody by some pairs. -/
inductive ReachT (acts : List (Txt × Txt)) : Txt → Txt → Prop
  | refl (a : Txt) : ReachT acts a a
  | step {a b c : Txt} : (a, b) ∈ acts → ReachT acts b c → ReachT acts a c
theorem ReachT.snoc {acts : List (Txt × Txt)} {a b c : Txt} (h : ReachT acts a b) (e : (b, c) ∈ acts) : ReachT acts a c := by
  induction h with
  | refl a => exact .step e (.refl _)
  | step h1 _ ih => exact .step h1 (ih e)
def addOne (x : Txt) (s : List Txt) (p : Txt × Txt) : List Txt := if p.1 == x && !has s p.2 then s ++ [p.2] else s
/-- What is added behind one that was come to. -/
def addN (acts : List (Txt × Txt)) (x : Txt) (s : List Txt) : List Txt := acts.foldl (addOne x) s
theorem addN_take {acts : List (Txt × Txt)} {x : Txt} {s : List Txt} {k : Nat} (hk : k < acts.length) : addN (acts.take (k + 1)) x s = addOne x (addN (acts.take k) x s) acts[k] := by
  unfold addN
  rw [List.take_succ_eq_append_getElem hk, List.foldl_append]
  rfl
theorem addOne_mem {x : Txt} {s : List Txt} {p : Txt × Txt} {y : Txt} : y ∈ addOne x s p ↔ y ∈ s ∨ (p.1 = x ∧ p.2 = y) := by
  unfold addOne
  split
  · rename_i h
    simp only [Bool.and_eq_true, beq_iff_eq, Bool.not_eq_true'] at h
    simp only [List.mem_append, List.mem_singleton]
    constructor
    · rintro (h' | rfl)
      · exact .inl h'
      · exact .inr ⟨h.1, rfl⟩
    · rintro (h' | ⟨_, rfl⟩)
      · exact .inl h'
      · exact .inr rfl
  · rename_i h
    refine ⟨.inl, ?_⟩
    rintro (h' | ⟨h1, rfl⟩)
    · exact h'
    · simp only [Bool.and_eq_true, beq_iff_eq, Bool.not_eq_true', not_and, Bool.not_eq_false] at h
      exact has_iff.1 (h h1)
theorem addN_mem {x : Txt} {y : Txt} : ∀ {acts : List (Txt × Txt)} {s : List Txt}, y ∈ addN acts x s ↔ y ∈ s ∨ (x, y) ∈ acts
  | [], s => by simp [addN]
  | p :: acts, s => by
    show y ∈ addN acts x (addOne x s p) ↔ _
    rw [addN_mem, addOne_mem]
    simp only [List.mem_cons]
    constructor
    · rintro ((h | ⟨rfl, rfl⟩) | h)
      · exact .inl h
      · exact .inr (.inl rfl)
      · exact .inr (.inr h)
    · rintro (h | h | h)
      · exact .inl (.inl h)
      · exact .inl (.inr (by rw [← h]; exact ⟨rfl, rfl⟩))
      · exact .inr h
theorem addOne_prefix (x : Txt) (s : List Txt) (p : Txt × Txt) : ∃ t, addOne x s p = s ++ t := by
  unfold addOne
  split
  · exact ⟨_, rfl⟩
  · exact ⟨[], by simp⟩
theorem addN_prefix (x : Txt) : ∀ (acts : List (Txt × Txt)) (s : List Txt), ∃ t, addN acts x s = s ++ t
  | [], s => ⟨[], by simp [addN]⟩
  | p :: acts, s => by
    obtain ⟨t, e⟩ := addOne_prefix x s p
    obtain ⟨t', e'⟩ := addN_prefix x acts (addOne x s p)
    exact ⟨t ++ t', by show addN acts x (addOne x s p) = _; rw [e', e, List.append_assoc]⟩
theorem addOne_nodup {x : Txt} {s : List Txt} {p : Txt × Txt} (h : s.Nodup) : (addOne x s p).Nodup := by
  unfold addOne
  split
  · rename_i hc
    simp only [Bool.and_eq_true, beq_iff_eq, Bool.not_eq_true'] at hc
    rw [List.nodup_append]
    refine ⟨h, by simp, fun a ha b hb => ?_⟩
    rw [List.mem_singleton] at hb
    subst hb
    rintro rfl
    have := has_iff.2 ha
    rw [hc.2] at this
    cases this
  · exact h
theorem addN_nodup {x : Txt} : ∀ {acts : List (Txt × Txt)} {s : List Txt}, s.Nodup → (addN acts x s).Nodup
  | [], s, h => h
  | p :: acts, s, h => addN_nodup (acts := acts) (addOne_nodup h)
theorem nodup_le {s : List Txt} : ∀ {t : List Txt}, s.Nodup → (∀ y ∈ s, y ∈ t) → s.length ≤ t.length := by
  induction s with
  | nil => intro t _ _; simp
  | cons x s ih =>
    intro t hn hs
    rw [List.nodup_cons] at hn
    have hx := hs x (by simp)
    have h1 : ∀ y ∈ s, y ∈ t.erase x := fun y hy => by
      have hne : y ≠ x := by rintro rfl; exact hn.1 hy
      exact (List.mem_erase_of_ne hne).2 (hs y (by simp [hy]))
    have h2 := ih hn.2 h1
    have h3 := List.length_erase_of_mem hx
    have h4 : 0 < t.length := List.length_pos_of_mem hx
    simp only [List.length_cons]
    omega
/-- Those who were come to. -/
structure SeenOk (acts : List (Txt × Txt)) (a : Txt) (s : List Txt) : Prop where
  nodup : s.Nodup
  sub : ∀ y ∈ s, y ∈ a :: acts.map Prod.snd
  reach : ∀ y ∈ s, ReachT acts a y
  self : a ∈ s
theorem SeenOk.le {acts : List (Txt × Txt)} {a : Txt} {s : List Txt} (h : SeenOk acts a s) : s.length ≤ acts.length + 1 := by
  have := nodup_le h.nodup h.sub
  simpa using this
theorem SeenOk.start (acts : List (Txt × Txt)) (a : Txt) : SeenOk acts a [a] := ⟨by simp, by simp, fun y hy => by rw [List.mem_singleton.1 hy]; exact .refl _, by simp⟩
theorem SeenOk.add {acts : List (Txt × Txt)} {a : Txt} {s : List Txt} (h : SeenOk acts a s) {x : Txt} (hx : x ∈ s) : ∀ (as' : List (Txt × Txt)), (∀ p ∈ as', p ∈ acts) → SeenOk acts a (addN as' x s) := fun as' has_ => by
  refine ⟨addN_nodup h.nodup, fun y hy => ?_, fun y hy => ?_, addN_mem.2 (.inl h.self)⟩
  · rcases addN_mem.1 hy with hy | hy
    · exact h.sub y hy
    · exact List.mem_cons_of_mem _ (List.mem_map.2 ⟨_, has_ _ hy, rfl⟩)
  · rcases addN_mem.1 hy with hy | hy
    · exact h.reach y hy
    · exact (h.reach x hx).snoc (has_ _ hy)
def bfs (acts : List (Txt × Txt)) (b : Txt) : Nat → Nat → List Txt → Bool
  | 0, _, _ => false
  | f + 1, k, s => if h : k < s.length then if s[k] == b then true else bfs acts b f (k + 1) (addN acts s[k] s) else false
def actsF (acts : List (Txt × Txt)) (a b : Txt) : Bool := bfs acts b (acts.length + 2) 0 [a]
theorem bfs_sound {acts : List (Txt × Txt)} {a b : Txt} : ∀ {f k : Nat} {s : List Txt}, SeenOk acts a s → bfs acts b f k s = true → ReachT acts a b
  | 0, _, _, _, h => by simp [bfs] at h
  | f + 1, k, s, hs, h => by
    unfold bfs at h
    split at h
    · rename_i hk
      split at h
      · rename_i hb
        rw [← eq_of_beq hb]
        exact hs.reach _ (List.getElem_mem hk)
      · exact bfs_sound (hs.add (List.getElem_mem hk) acts fun _ h => h) h
    · cases h
theorem bfs_complete {acts : List (Txt × Txt)} {a b : Txt} : ∀ {f k : Nat} {s : List Txt}, SeenOk acts a s → k ≤ s.length → acts.length + 2 ≤ f + k → (∀ j (hj : j < s.length), j < k → s[j] ≠ b ∧ ∀ y, (s[j], y) ∈ acts → y ∈ s) → bfs acts b f k s = false → ¬ ReachT acts a b
  | 0, k, s, hs, hk, hf, _, _ => by have := hs.le; omega
  | f + 1, k, s, hs, hk, hf, hj, h => by
    unfold bfs at h
    split at h
    · rename_i hk'
      split at h
      · cases h
      · rename_i hb
        obtain ⟨t, et⟩ := addN_prefix s[k] acts s
        refine bfs_complete (hs.add (List.getElem_mem hk') acts fun _ h => h) (by rw [et]; simp; omega) (by omega) (fun j hj' hjk => ?_) h
        have hjs : j < s.length := by omega
        have e : (addN acts s[k] s)[j] = s[j] := by
          simp only [et]
          exact List.getElem_append_left hjs
        rw [e]
        by_cases hjk' : j < k
        · obtain ⟨h1, h2⟩ := hj j hjs hjk'
          exact ⟨h1, fun y hy => addN_mem.2 (.inl (h2 y hy))⟩
        · obtain rfl : j = k := by omega
          exact ⟨fun e => hb (by rw [e]; simp), fun y hy => addN_mem.2 (.inr hy)⟩
    · rename_i hk'
      have hcl : ∀ x ∈ s, x ≠ b ∧ ∀ y, (x, y) ∈ acts → y ∈ s := fun x hx => by
        obtain ⟨j, hj', rfl⟩ := List.getElem_of_mem hx
        exact hj j hj' (by omega)
      intro hr
      have key : ∀ x y, ReachT acts x y → x ∈ s → y ∈ s := by
        intro x y h
        induction h with
        | refl => exact id
        | step e _ ih => exact fun hx => ih ((hcl _ hx).2 _ e)
      exact (hcl b (key _ _ hr hs.self)).1 rfl
theorem acts_reach {acts : List (Txt × Txt)} {a b : Txt} : actsF acts a b = true ↔ ReachT acts a b := by
  refine ⟨fun h => bfs_sound (SeenOk.start acts a) h, fun h => ?_⟩
  apply Decidable.byContradiction
  intro hn
  exact bfs_complete (k := 0) (f := acts.length + 2) (SeenOk.start acts a) (by simp) (by omega) (fun j _ hj => absurd hj (Nat.not_lt_zero _)) (by simpa [actsF] using hn) h
/-- One round of the search. -/
theorem bfs_hit {acts : List (Txt × Txt)} {b : Txt} {f k : Nat} {s : List Txt} (hk : k < s.length) (h : s[k] = b) : bfs acts b (f + 1) k s = true := by
  unfold bfs; rw [dif_pos hk, if_pos (by rw [h]; simp)]
theorem bfs_on {acts : List (Txt × Txt)} {b : Txt} {f k : Nat} {s : List Txt} (hk : k < s.length) (h : s[k] ≠ b) : bfs acts b (f + 1) k s = bfs acts b f (k + 1) (addN acts s[k] s) := by
  rw [bfs, dif_pos hk, if_neg (by simpa using h)]
theorem bfs_end {acts : List (Txt × Txt)} {b : Txt} {f k : Nat} {s : List Txt} (hk : ¬ k < s.length) : bfs acts b f k s = false := by
  cases f with
  | zero => rfl
  | succ f => unfold bfs; rw [dif_neg hk]

theorem idx_inj {l : List Txt} {x y : Txt} (hx : has l x = true) (hy : has l y = true) (h : idxOf l x = idxOf l y) : x = y := by
  obtain ⟨i, e1, _, e2⟩ := idxOf_has hx
  obtain ⟨j, e3, _, e4⟩ := idxOf_has hy
  obtain rfl : i = j := by omega
  rw [e2] at e4
  exact Option.some.inj e4
theorem act_reach {l : List Txt} {acts : List (Txt × Txt)} (ha : ∀ p ∈ acts, has l p.1 = true ∧ has l p.2 = true) {a b : Txt} (h1 : has l a = true) (h2 : has l b = true) : actM l acts a b = true ↔ ReachT acts a b := by
  unfold actM
  rw [clos_reach]
  constructor
  · intro h
    have key : ∀ i j, Reach (fun a b => edgeM l acts a b = true) i j → ∀ x y, has l x = true → has l y = true → (idxOf l x).toNat = i → (idxOf l y).toNat = j → ReachT acts x y := by
      intro i j h
      induction h with
      | refl i =>
        intro x y hx hy e1 e2
        obtain ⟨p, q1, _, _⟩ := idxOf_has hx
        obtain ⟨r, q2, _, _⟩ := idxOf_has hy
        rw [idx_inj hx hy (by omega)]
        exact .refl _
      | step e _ ih =>
        intro x y hx hy e1 e2
        rcases edge_iff.1 e with rfl | ⟨p, hp, e3, e4⟩
        · exact ih x y hx hy e1 e2
        · obtain ⟨q1, q2⟩ := ha p hp
          obtain ⟨r, e5, _, _⟩ := idxOf_has hx
          have : p.1 = x := idx_inj q1 hx (by omega)
          subst this
          exact .step (b := p.2) hp (ih p.2 y q2 hy (by omega) e2)
    exact key _ _ h a b h1 h2 rfl rfl
  · intro h
    have key : ∀ x y, ReachT acts x y → has l x = true → Reach (fun a b => edgeM l acts a b = true) (idxOf l x).toNat (idxOf l y).toNat := by
      intro x y h
      induction h with
      | refl => exact fun _ => .refl _
      | step e _ ih =>
        intro hx
        obtain ⟨q1, q2⟩ := ha _ e
        obtain ⟨r1, e1, _, _⟩ := idxOf_has q1
        obtain ⟨r2, e2, _, _⟩ := idxOf_has q2
        exact .step (edge_iff.2 (.inr ⟨_, e, by simp only [] at *; omega, by simp only [] at *; omega⟩)) (ih q2)
    exact key a b h h1
end Go.Proofs.YtfbieagkhbmgjaaDoor
