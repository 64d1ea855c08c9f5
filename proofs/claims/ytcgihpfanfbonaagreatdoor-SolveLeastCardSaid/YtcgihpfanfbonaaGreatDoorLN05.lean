/-
  Plain law: who acts for whom, found by going from one to the next. Plain laws: joins of labels, and what is left of a label without somebody's policies. Plain law: what labels let, with whom somebody acts for found by going from one to the next. Plain law: the document's way to a normal form is the program's. Equal lists, element by element; worlds but for answers drawn. slices.Equal over texts. cmp.Compare and slices.Compare over texts; label.compare over policies.
-/
import Derived.Test.YtcgihpfanfbonaaGreatDoorLN02
import Derived.Test.YtcgihpfanfbonaaGreatDoorLN04
import Derived.Test.YtcgihpfanfbonaaGreatDoorLN00
import Derived.Test.YtcgihpfanfbonaaGreatDoorLN01
import Derived.Test.YtcgihpfanfbonaaGreatDoorShelf
import Derived.Laws.Cover1
import Derived.Sort.Walk0
import Derived.Sort.Grow
namespace Go.Proofs.YtcgihpfanfbonaaGreatDoor
set_option linter.unusedVariables false
set_option linter.unusedSimpArgs false

/-- Somebody acts for somebody by some pairs. -/
inductive ReachT (acts : List (Txt × Txt)) : Txt → Txt → Prop
  | refl (a : Txt) : ReachT acts a a
  | step {a b c : Txt} : (a, b) ∈ acts → ReachT acts b c → ReachT acts a c
theorem ReachT.snoc {acts : List (Txt × Txt)} {a b c : Txt} (h : ReachT acts a b) (e : (b, c) ∈ acts) : ReachT acts a c := by
  induction h with
  | refl a => exact .step e (.refl _)
  | step h1 _ ih => exact .step h1 (ih e)
def addOne (x : Txt) (s : List Txt) (p : Txt × Txt) : List Txt := if p.1 == x && !has s p.2 then s ++ [p.2] else s
/-- What is added behind one that was come to. -/
def addN (acts : List (Txt × Txt)) (x : Txt) (s : List Txt) : List Txt := acts.foldl (addOne x) s
theorem addN_take {acts : List (Txt × Txt)} {x : Txt} {s : List Txt} {k : Nat} (hk : k < acts.length) : addN (acts.take (k + 1)) x s = addOne x (addN (acts.take k) x s) acts[k] := by
  unfold addN
  rw [List.take_succ_eq_append_getElem hk, List.foldl_append]
  rfl
theorem addOne_mem {x : Txt} {s : List Txt} {p : Txt × Txt} {y : Txt} : y ∈ addOne x s p ↔ y ∈ s ∨ (p.1 = x ∧ p.2 = y) := by
  unfold addOne
  split
  · rename_i h
    simp only [Bool.and_eq_true, beq_iff_eq, Bool.not_eq_true'] at h
    simp only [List.mem_append, List.mem_singleton]
    constructor
    · rintro (h' | rfl)
      · exact .inl h'
      · exact .inr ⟨h.1, rfl⟩
    · rintro (h' | ⟨_, rfl⟩)
      · exact .inl h'
      · exact .inr rfl
  · rename_i h
    refine ⟨.inl, ?_⟩
    rintro (h' | ⟨h1, rfl⟩)
    · exact h'
    · simp only [Bool.and_eq_true, beq_iff_eq, Bool.not_eq_true', not_and, Bool.not_eq_false] at h
      exact has_iff.1 (h h1)
theorem addN_mem {x : Txt} {y : Txt} : ∀ {acts : List (Txt × Txt)} {s : List Txt}, y ∈ addN acts x s ↔ y ∈ s ∨ (x, y) ∈ acts
  | [], s => by simp [addN]
  | p :: acts, s => by
    show y ∈ addN acts x (addOne x s p) ↔ _
    rw [addN_mem, addOne_mem]
    simp only [List.mem_cons]
    constructor
    · rintro ((h | ⟨rfl, rfl⟩) | h)
      · exact .inl h
      · exact .inr (.inl rfl)
      · exact .inr (.inr h)
    · rintro (h | h | h)
      · exact .inl (.inl h)
      · exact .inl (.inr (by rw [← h]; exact ⟨rfl, rfl⟩))
      · exact .inr h
theorem addOne_prefix (x : Txt) (s : List Txt) (p : Txt × Txt) : ∃ t, addOne x s p = s ++ t := by
  unfold addOne
  split
  · exact ⟨_, rfl⟩
  · exact ⟨[], by simp⟩
theorem addN_prefix (x : Txt) : ∀ (acts : List (Txt × Txt)) (s : List Txt), ∃ t, addN acts x s = s ++ t
  | [], s => ⟨[], by simp [addN]⟩
  | p :: acts, s => by
    obtain ⟨t, e⟩ := addOne_prefix x s p
    obtain ⟨t', e'⟩ := addN_prefix x acts (addOne x s p)
    exact ⟨t ++ t', by show addN acts x (addOne x s p) = _; rw [e', e, List.append_assoc]⟩
theorem addOne_nodup {x : Txt} {s : List Txt} {p : Txt × Txt} (h : s.Nodup) : (addOne x s p).Nodup := by
  unfold addOne
  split
  · rename_i hc
    simp only [Bool.and_eq_true, beq_iff_eq, Bool.not_eq_true'] at hc
    rw [List.nodup_append]
    refine ⟨h, by simp, fun a ha b hb => ?_⟩
    rw [List.mem_singleton] at hb
    subst hb
    rintro rfl
    have := has_iff.2 ha
    rw [hc.2] at this
    cases this
  · exact h
theorem addN_nodup {x : Txt} : ∀ {acts : List (Txt × Txt)} {s : List Txt}, s.Nodup → (addN acts x s).Nodup
  | [], s, h => h
  | p :: acts, s, h => addN_nodup (acts := acts) (addOne_nodup h)
theorem nodup_le {s : List Txt} : ∀ {t : List Txt}, s.Nodup → (∀ y ∈ s, y ∈ t) → s.length ≤ t.length := by
  induction s with
  | nil => intro t _ _; simp
  | cons x s ih =>
    intro t hn hs
    rw [List.nodup_cons] at hn
    have hx := hs x (by simp)
    have h1 : ∀ y ∈ s, y ∈ t.erase x := fun y hy => by
      have hne : y ≠ x := by rintro rfl; exact hn.1 hy
      exact (List.mem_erase_of_ne hne).2 (hs y (by simp [hy]))
    have h2 := ih hn.2 h1
    have h3 := List.length_erase_of_mem hx
    have h4 : 0 < t.length := List.length_pos_of_mem hx
    simp only [List.length_cons]
    omega
/-- Those who were come to. -/
structure SeenOk (acts : List (Txt × Txt)) (a : Txt) (s : List Txt) : Prop where
  nodup : s.Nodup
  sub : ∀ y ∈ s, y ∈ a :: acts.map Prod.snd
  reach : ∀ y ∈ s, ReachT acts a y
  self : a ∈ s
theorem SeenOk.le {acts : List (Txt × Txt)} {a : Txt} {s : List Txt} (h : SeenOk acts a s) : s.length ≤ acts.length + 1 := by
  have := nodup_le h.nodup h.sub
  simpa using this
theorem SeenOk.start (acts : List (Txt × Txt)) (a : Txt) : SeenOk acts a [a] := ⟨by simp, by simp, fun y hy => by rw [List.mem_singleton.1 hy]; exact .refl _, by simp⟩
theorem SeenOk.add {acts : List (Txt × Txt)} {a : Txt} {s : List Txt} (h : SeenOk acts a s) {x : Txt} (hx : x ∈ s) : ∀ (as' : List (Txt × Txt)), (∀ p ∈ as', p ∈ acts) → SeenOk acts a (addN as' x s) := fun as' has_ => by
  refine ⟨addN_nodup h.nodup, fun y hy => ?_, fun y hy => ?_, addN_mem.2 (.inl h.self)⟩
  · rcases addN_mem.1 hy with hy | hy
    · exact h.sub y hy
    · exact List.mem_cons_of_mem _ (List.mem_map.2 ⟨_, has_ _ hy, rfl⟩)
  · rcases addN_mem.1 hy with hy | hy
    · exact h.reach y hy
    · exact (h.reach x hx).snoc (has_ _ hy)
def bfs (acts : List (Txt × Txt)) (b : Txt) : Nat → Nat → List Txt → Bool
  | 0, _, _ => false
  | f + 1, k, s => if h : k < s.length then if s[k] == b then true else bfs acts b f (k + 1) (addN acts s[k] s) else false
def actsF (acts : List (Txt × Txt)) (a b : Txt) : Bool := bfs acts b (acts.length + 2) 0 [a]
theorem bfs_sound {acts : List (Txt × Txt)} {a b : Txt} : ∀ {f k : Nat} {s : List Txt}, SeenOk acts a s → bfs acts b f k s = true → ReachT acts a b
  | 0, _, _, _, h => by simp [bfs] at h
  | f + 1, k, s, hs, h => by
    unfold bfs at h
    split at h
    · rename_i hk
      split at h
      · rename_i hb
        rw [← eq_of_beq hb]
        exact hs.reach _ (List.getElem_mem hk)
      · exact bfs_sound (hs.add (List.getElem_mem hk) acts fun _ h => h) h
    · cases h
theorem bfs_complete {acts : List (Txt × Txt)} {a b : Txt} : ∀ {f k : Nat} {s : List Txt}, SeenOk acts a s → k ≤ s.length → acts.length + 2 ≤ f + k → (∀ j (hj : j < s.length), j < k → s[j] ≠ b ∧ ∀ y, (s[j], y) ∈ acts → y ∈ s) → bfs acts b f k s = false → ¬ ReachT acts a b
  | 0, k, s, hs, hk, hf, _, _ => by have := hs.le; omega
  | f + 1, k, s, hs, hk, hf, hj, h => by
    unfold bfs at h
    split at h
    · rename_i hk'
      split at h
      · cases h
      · rename_i hb
        obtain ⟨t, et⟩ := addN_prefix s[k] acts s
        refine bfs_complete (hs.add (List.getElem_mem hk') acts fun _ h => h) (by rw [et]; simp; omega) (by omega) (fun j hj' hjk => ?_) h
        have hjs : j < s.length := by omega
        have e : (addN acts s[k] s)[j] = s[j] := by
          simp only [et]
          exact List.getElem_append_left hjs
        rw [e]
        by_cases hjk' : j < k
        · obtain ⟨h1, h2⟩ := hj j hjs hjk'
          exact ⟨h1, fun y hy => addN_mem.2 (.inl (h2 y hy))⟩
        · obtain rfl : j = k := by omega
          exact ⟨fun e => hb (by rw [e]; simp), fun y hy => addN_mem.2 (.inr hy)⟩
    · rename_i hk'
      have hcl : ∀ x ∈ s, x ≠ b ∧ ∀ y, (x, y) ∈ acts → y ∈ s := fun x hx => by
        obtain ⟨j, hj', rfl⟩ := List.getElem_of_mem hx
        exact hj j hj' (by omega)
      intro hr
      have key : ∀ x y, ReachT acts x y → x ∈ s → y ∈ s := by
        intro x y h
        induction h with
        | refl => exact id
        | step e _ ih => exact fun hx => ih ((hcl _ hx).2 _ e)
      exact (hcl b (key _ _ hr hs.self)).1 rfl
theorem acts_reach {acts : List (Txt × Txt)} {a b : Txt} : actsF acts a b = true ↔ ReachT acts a b := by
  refine ⟨fun h => bfs_sound (SeenOk.start acts a) h, fun h => ?_⟩
  apply Decidable.byContradiction
  intro hn
  exact bfs_complete (k := 0) (f := acts.length + 2) (SeenOk.start acts a) (by simp) (by omega) (fun j _ hj => absurd hj (Nat.not_lt_zero _)) (by simpa [actsF] using hn) h
/-- One round of the search. -/
theorem bfs_hit {acts : List (Txt × Txt)} {b : Txt} {f k : Nat} {s : List Txt} (hk : k < s.length) (h : s[k] = b) : bfs acts b (f + 1) k s = true := by
  unfold bfs; rw [dif_pos hk, if_pos (by rw [h]; simp)]
theorem bfs_on {acts : List (Txt × Txt)} {b : Txt} {f k : Nat} {s : List Txt} (hk : k < s.length) (h : s[k] ≠ b) : bfs acts b (f + 1) k s = bfs acts b f (k + 1) (addN acts s[k] s) := by
  rw [bfs, dif_pos hk, if_neg (by simpa using h)]
theorem bfs_end {acts : List (Txt × Txt)} {b : Txt} {f k : Nat} {s : List Txt} (hk : ¬ k < s.length) : bfs acts b f k s = false := by
  cases f with
  | zero => rfl
  | succ f => unfold bfs; rw [dif_neg hk]

theorem idx_inj {l : List Txt} {x y : Txt} (hx : has l x = true) (hy : has l y = true) (h : idxOf l x = idxOf l y) : x = y := by
  obtain ⟨i, e1, _, e2⟩ := idxOf_has hx
  obtain ⟨j, e3, _, e4⟩ := idxOf_has hy
  obtain rfl : i = j := by omega
  rw [e2] at e4
  exact Option.some.inj e4
theorem act_reach {l : List Txt} {acts : List (Txt × Txt)} (ha : ∀ p ∈ acts, has l p.1 = true ∧ has l p.2 = true) {a b : Txt} (h1 : has l a = true) (h2 : has l b = true) : actM l acts a b = true ↔ ReachT acts a b := by
  unfold actM
  rw [clos_reach]
  constructor
  · intro h
    have key : ∀ i j, Reach (fun a b => edgeM l acts a b = true) i j → ∀ x y, has l x = true → has l y = true → (idxOf l x).toNat = i → (idxOf l y).toNat = j → ReachT acts x y := by
      intro i j h
      induction h with
      | refl i =>
        intro x y hx hy e1 e2
        obtain ⟨p, q1, _, _⟩ := idxOf_has hx
        obtain ⟨r, q2, _, _⟩ := idxOf_has hy
        rw [idx_inj hx hy (by omega)]
        exact .refl _
      | step e _ ih =>
        intro x y hx hy e1 e2
        rcases edge_iff.1 e with rfl | ⟨p, hp, e3, e4⟩
        · exact ih x y hx hy e1 e2
        · obtain ⟨q1, q2⟩ := ha p hp
          obtain ⟨r, e5, _, _⟩ := idxOf_has hx
          have : p.1 = x := idx_inj q1 hx (by omega)
          subst this
          exact .step (b := p.2) hp (ih p.2 y q2 hy (by omega) e2)
    exact key _ _ h a b h1 h2 rfl rfl
  · intro h
    have key : ∀ x y, ReachT acts x y → has l x = true → Reach (fun a b => edgeM l acts a b = true) (idxOf l x).toNat (idxOf l y).toNat := by
      intro x y h
      induction h with
      | refl => exact fun _ => .refl _
      | step e _ ih =>
        intro hx
        obtain ⟨q1, q2⟩ := ha _ e
        obtain ⟨r1, e1, _, _⟩ := idxOf_has q1
        obtain ⟨r2, e2, _, _⟩ := idxOf_has q2
        exact .step (edge_iff.2 (.inr ⟨_, e, by simp only [] at *; omega, by simp only [] at *; omega⟩)) (ih q2)
    exact key a b h h1
end Go.Proofs.YtcgihpfanfbonaaGreatDoor
namespace Go.Proofs.YtcgihpfanfbonaaGreatDoor
open Go.RowKit
set_option linter.unusedVariables false
set_option linter.unusedSimpArgs false

/-- A label's policies are right ones of these chiefs. -/
def RightL (l : List Txt) (x : Lab) : Prop := ∀ p ∈ x, p.2.length ≤ 6 ∧ has l p.1 = true ∧ ∀ s ∈ p.2, has l s = true
theorem labErr_of {l : List Txt} {x : Lab} (h0 : x.length ≤ 200) (h : RightL l x) : labErr l x = 0 := labErr_none h0 fun j hj => by
  obtain ⟨h1, h2, h3⟩ := h _ (List.getElem_mem hj)
  unfold polErr
  rw [if_neg (by omega), if_pos]
  simp only [List.all_cons, h2, Bool.true_and, List.all_eq_true]
  exact h3
theorem right_of {l : List Txt} {acts : List (Txt × Txt)} {x : Lab} (h : labE l acts x = 0) : RightL l x := (labErr_zero (labE_check h).2).2
theorem labE_of {l : List Txt} {acts : List (Txt × Txt)} {x : Lab} (hc : checkC l acts = 0) (h : labErr l x = 0) : labE l acts x = 0 := by
  unfold labE
  rw [if_neg (by rw [hc]; simp), h]
theorem RightL.append {l : List Txt} {x y : Lab} (h : RightL l x) (k : RightL l y) : RightL l (x ++ y) := fun p hp => by
  rcases List.mem_append.1 hp with hp | hp
  · exact h p hp
  · exact k p hp
theorem RightL.filter {l : List Txt} {x : Lab} (h : RightL l x) (f : Pol → Bool) : RightL l (x.filter f) := fun p hp => h p (List.mem_filter.1 hp).1
theorem dedup_len {α : Type} [DecidableEq α] (l : List α) : (dedup l).length ≤ l.length := by
  have : ∀ (p : α) (l : List α), (dedupFrom p l).length ≤ l.length := by
    intro p l
    induction l generalizing p with
    | nil => exact Nat.le_refl _
    | cons x l ih =>
      unfold dedupFrom
      split
      · have := ih p; simp; omega
      · have := ih x; simp; omega
  cases l with
  | nil => exact Nat.le_refl _
  | cons x l => have := this x l; show (x :: dedupFrom x l).length ≤ _; simp; exact this
theorem plainR_len (o : Txt) (l : List Txt) : (plainR o l).length ≤ l.length := by
  unfold plainR
  refine Nat.le_trans (List.length_filter_le _ _) (Nat.le_trans (dedup_len _) ?_)
  rw [(srt_perm cmpT l).length_eq]
  exact Nat.le_refl _
theorem RightL.norm {l : List Txt} {x : Lab} (h : RightL l x) (q : Txt → Txt → Bool) : RightL l (normL q x) := fun p hp => by
  obtain ⟨y, hy, rfl⟩ := mem_norm hp
  obtain ⟨h1, h2, h3⟩ := h y hy
  exact ⟨Nat.le_trans (plainR_len _ _) h1, h2, fun s hs => h3 s (mem_plainR.1 hs).1⟩
theorem norm_few {l : List Txt} {x : Lab} (hl : l.length ≤ 6) (h : RightL l x) (q : Txt → Txt → Bool) : (normL q x).length ≤ 192 :=
  few_pols hl (norm_rising q x) (fun p hp => norm_plain hp) fun p hp => by
    obtain ⟨_, h2, h3⟩ := h.norm q p hp
    exact ⟨has_iff.1 h2, fun s hs => has_iff.1 (h3 s hs)⟩
theorem norm_right {l : List Txt} {acts : List (Txt × Txt)} {x : Lab} (hc : checkC l acts = 0) (h : RightL l x) (q : Txt → Txt → Bool) : labE l acts (normL q x) = 0 := by
  have := norm_few (checkC_zero hc).1 h q
  exact labE_of hc (labErr_of (by omega) (h.norm q))
section
variable {l : List Txt} {acts : List (Txt × Txt)}
theorem covers_self {x : Lab} (h : RightL l x) : ∀ p ∈ x, coversB (mayB l acts) p p = true := fun p hp => by
  obtain ⟨_, h2, h3⟩ := h p hp
  exact covers_refl (may_refl h2) fun r hr => may_refl (h3 r hr)
theorem may_trans' : ∀ a b c : Txt, mayB l acts a b = true → mayB l acts b c = true → mayB l acts a c = true := fun _ _ _ => may_trans
theorem flows_self {x : Lab} (h : RightL l x) : flowsB (mayB l acts) x x = true := flows_iff.2 fun p hp => ⟨p, hp, covers_self h p hp⟩
theorem flows_norm {x : Lab} (h : RightL l x) : flowsB (mayB l acts) x (normL (mayB l acts) x) = true := flows_to_norm may_trans' (covers_self h)
theorem norm_flows {x m : Lab} (h : flowsB (mayB l acts) x m = true) : flowsB (mayB l acts) (normL (mayB l acts) x) m = true := flows_of_norm (flows_iff.1 h)
theorem flows_append {x y m : Lab} {q : Txt → Txt → Bool} (h1 : flowsB q x m = true) (h2 : flowsB q y m = true) : flowsB q (x ++ y) m = true := by
  rw [flows_iff] at *
  intro p hp
  rcases List.mem_append.1 hp with hp | hp
  · exact h1 p hp
  · exact h2 p hp
theorem flows_left {x y m : Lab} {q : Txt → Txt → Bool} (h : flowsB q (x ++ y) m = true) : flowsB q x m = true := flows_iff.2 fun p hp => flows_iff.1 h p (List.mem_append_left _ hp)
theorem flows_right {x y m : Lab} {q : Txt → Txt → Bool} (h : flowsB q (x ++ y) m = true) : flowsB q y m = true := flows_iff.2 fun p hp => flows_iff.1 h p (List.mem_append_right _ hp)
/-- Join. -/
def joinL (q : Txt → Txt → Bool) (a b : Lab) : Lab := normL q (a ++ b)
theorem join_right {a b : Lab} (hc : checkC l acts = 0) (ha : RightL l a) (hb : RightL l b) (q : Txt → Txt → Bool) : labE l acts (joinL q a b) = 0 := norm_right hc (ha.append hb) q
theorem flows_join_left {a b : Lab} (ha : RightL l a) (hb : RightL l b) : flowsB (mayB l acts) a (joinL (mayB l acts) a b) = true := flows_left (flows_norm (ha.append hb))
theorem flows_join_right {a b : Lab} (ha : RightL l a) (hb : RightL l b) : flowsB (mayB l acts) b (joinL (mayB l acts) a b) = true := flows_right (flows_norm (ha.append hb))
theorem join_flows {a b m : Lab} (h1 : flowsB (mayB l acts) a m = true) (h2 : flowsB (mayB l acts) b m = true) : flowsB (mayB l acts) (joinL (mayB l acts) a b) m = true := norm_flows (flows_append h1 h2)
theorem flowsE_of {a b : Lab} (h1 : labE l acts a = 0) (h2 : labE l acts b = 0) : flowsE l acts a b = 0 := by
  unfold flowsE
  rw [if_neg (by rw [h1]; simp), h2]
theorem flowsR_of {a b : Lab} (h1 : labE l acts a = 0) (h2 : labE l acts b = 0) : flowsR l acts a b = flowsB (mayB l acts) a b := flowsR_iff (flowsE_of h1 h2)
/-- What the law's own function tells: may it go, with no error? -/
theorem flowsR_zero {a b : Lab} (h : flowsR l acts a b = true) : flowsE l acts a b = 0 ∧ flowsB (mayB l acts) a b = true := by
  unfold flowsR at h
  rw [Bool.and_eq_true] at h
  exact ⟨by simpa using h.1, h.2⟩
/-- The law on joins. -/
theorem join_law {a b c : Lab} (h : flowsE l acts a b = 0) :
    flowsR l acts a (joinL (mayB l acts) a b) = true ∧ flowsR l acts b (joinL (mayB l acts) a b) = true ∧ flowsR l acts a (normL (mayB l acts) a) = true ∧ flowsR l acts (normL (mayB l acts) a) a = true ∧
      (flowsR l acts a c = true → flowsR l acts b c = true → flowsR l acts (joinL (mayB l acts) a b) c = true) := by
  obtain ⟨ha, hb⟩ := flowsE_zero h
  have hc := (labE_check ha).1
  have ra := right_of ha
  have rb := right_of hb
  have hj := join_right hc ra rb (mayB l acts)
  have hn := norm_right hc ra (mayB l acts)
  rw [flowsR_of ha hj, flowsR_of hb hj, flowsR_of ha hn, flowsR_of hn ha]
  refine ⟨flows_join_left ra rb, flows_join_right ra rb, flows_norm ra, norm_flows (flows_self ra), fun h1 h2 => ?_⟩
  obtain ⟨e1, f1⟩ := flowsR_zero h1
  obtain ⟨e2, f2⟩ := flowsR_zero h2
  rw [flowsR_of hj (flowsE_zero e1).2]
  exact join_flows f1 f2
/-- Without the policies whose owner one of some acts for. -/
def leftOut (q : Txt → Txt → Bool) (by_ : List Txt) (p : Pol) : Bool := anyBy by_ fun s => q s p.1
def lessL (q : Txt → Txt → Bool) (x : Lab) (by_ : List Txt) : Lab := normL q (x.filter fun p => !leftOut q by_ p)
def lessE (l : List Txt) (acts : List (Txt × Txt)) (x : Lab) (by_ : List Txt) : Int := if labE l acts x ≠ 0 then labE l acts x else if 6 < by_.length then 2 else if by_.all (has l) then 0 else 5
theorem lessE_zero {x : Lab} {by_ : List Txt} (h : lessE l acts x by_ = 0) : labE l acts x = 0 ∧ by_.length ≤ 6 ∧ ∀ s ∈ by_, has l s = true := by
  unfold lessE at h
  split at h
  · omega
  · split at h
    · omega
    · split at h
      · rename_i h1 h2 h3
        exact ⟨by omega, by omega, List.all_eq_true.1 h3⟩
      · omega
theorem lessE_of {x : Lab} {by_ : List Txt} (h1 : labE l acts x = 0) (h2 : by_.length ≤ 6) (h3 : ∀ s ∈ by_, has l s = true) : lessE l acts x by_ = 0 := by
  unfold lessE
  rw [if_neg (by rw [h1]; simp), if_neg (by omega), if_pos (List.all_eq_true.2 h3)]
theorem less_right {x : Lab} (hc : checkC l acts = 0) (hx : RightL l x) (q : Txt → Txt → Bool) (by_ : List Txt) : labE l acts (lessL q x by_) = 0 := norm_right hc (hx.filter _) q
theorem less_flows {x : Lab} (hx : RightL l x) (by_ : List Txt) : flowsB (mayB l acts) (lessL (mayB l acts) x by_) x = true :=
  norm_flows (flows_iff.2 fun p hp => ⟨p, (List.mem_filter.1 hp).1, covers_self hx p (List.mem_filter.1 hp).1⟩)
theorem less_twice (q : Txt → Txt → Bool) (x : Lab) (by_ : List Txt) : lessL q (lessL q x by_) by_ = lessL q x by_ := by
  have e : (lessL q x by_).filter (fun p => !leftOut q by_ p) = lessL q x by_ := by
    rw [List.filter_eq_self]
    intro p hp
    obtain ⟨y, hy, rfl⟩ := mem_norm hp
    exact (List.mem_filter.1 hy).2
  show normL q ((lessL q x by_).filter _) = _
  rw [e]
  exact norm_self q _
theorem norm_nil (q : Txt → Txt → Bool) : normL q [] = [] := by
  have h : (normL q []).length ≤ ([] : Lab).length := Nat.le_trans (norm_sub q []).length_le (allOf_le [])
  exact List.eq_nil_of_length_eq_zero (by simpa using h)
theorem less_all {x : Lab} (hx : RightL l x) : lessL (mayB l acts) x l = [] := by
  have e : x.filter (fun p => !leftOut (mayB l acts) l p) = [] := by
    rw [List.filter_eq_nil_iff]
    intro p hp
    have h2 := (hx p hp).2.1
    have : leftOut (mayB l acts) l p = true := any_iff.2 ⟨p.1, has_iff.1 h2, may_refl h2⟩
    rw [this]; simp
  unfold lessL
  rw [e]
  exact norm_nil _
/-- The law on what is left. -/
theorem less_law {a : Lab} {by_ : List Txt} (h : lessE l acts a by_ = 0) :
    flowsE l acts (lessL (mayB l acts) a by_) a = 0 ∧ flowsR l acts (lessL (mayB l acts) a by_) a = true ∧ lessE l acts (lessL (mayB l acts) a by_) by_ = 0 ∧ lessL (mayB l acts) (lessL (mayB l acts) a by_) by_ = lessL (mayB l acts) a by_ ∧ lessE l acts a l = 0 ∧ lessL (mayB l acts) a l = [] := by
  obtain ⟨h1, h2, h3⟩ := lessE_zero h
  have hc := (labE_check h1).1
  have ra := right_of h1
  have hx := less_right hc ra (mayB l acts) by_
  refine ⟨flowsE_of hx h1, ?_, lessE_of hx h2 h3, less_twice _ _ _, lessE_of h1 (checkC_zero hc).1 fun s hs => has_iff.2 hs, less_all ra⟩
  rw [flowsR_of hx h1]
  exact less_flows ra by_
/-- What goes on, goes on without them. -/
theorem less_mono {x y : Lab} (hx : RightL l x) (hy : RightL l y) (by_ : List Txt) (h : flowsB (mayB l acts) x y = true) : flowsB (mayB l acts) (lessL (mayB l acts) x by_) (lessL (mayB l acts) y by_) = true := by
  refine norm_flows (flows_iff.2 fun p hp => ?_)
  obtain ⟨hp1, hp2⟩ := List.mem_filter.1 hp
  obtain ⟨p', h1, h2⟩ := flows_iff.1 h p hp1
  have hk : p' ∈ y.filter fun p => !leftOut (mayB l acts) by_ p := by
    refine List.mem_filter.2 ⟨h1, ?_⟩
    cases e : leftOut (mayB l acts) by_ p' with
    | false => rfl
    | true =>
      obtain ⟨s, hs, hsp⟩ := any_iff.1 e
      have : leftOut (mayB l acts) by_ p = true := any_iff.2 ⟨s, hs, may_trans hsp (covers_iff.1 h2).1⟩
      rw [this] at hp2
      cases hp2
  obtain ⟨p'', h3, h4⟩ := flows_iff.1 (flows_norm (hy.filter fun p => !leftOut (mayB l acts) by_ p)) p' hk
  exact ⟨p'', h3, covers_trans may_trans' h4 h2⟩
theorem join_mono {a b c d : Lab} (ha : RightL l a) (hb : RightL l b) (hc : RightL l c) (hd : RightL l d) (h1 : flowsB (mayB l acts) a c = true) (h2 : flowsB (mayB l acts) b d = true) : flowsB (mayB l acts) (joinL (mayB l acts) a b) (joinL (mayB l acts) c d) = true :=
  join_flows (flows_trans may_trans' h1 (flows_join_left hc hd)) (flows_trans may_trans' h2 (flows_join_right hc hd))
end
end Go.Proofs.YtcgihpfanfbonaaGreatDoor
namespace Go.Proofs.YtcgihpfanfbonaaGreatDoor
set_option linter.unusedVariables false
set_option linter.unusedSimpArgs false

section
variable {l : List Txt} {acts : List (Txt × Txt)}
theorem check_acts (hc : checkC l acts = 0) : ∀ p ∈ acts, has l p.1 = true ∧ has l p.2 = true := fun p hp => by
  obtain ⟨j, hj, rfl⟩ := List.getElem_of_mem hp
  have := (checkC_zero hc).2.2.2 j hj
  simpa [actOk] using this
theorem actM_acts (hc : checkC l acts = 0) {a b : Txt} (ha : has l a = true) (hb : has l b = true) : actM l acts a b = actsF acts a b := by
  rw [Bool.eq_iff_iff, act_reach (check_acts hc) ha hb, acts_reach]
theorem may_acts (hc : checkC l acts = 0) {a b : Txt} (ha : has l a = true) (hb : has l b = true) : mayB l acts a b = actsF acts a b := by
  rw [← actM_acts hc ha hb, Bool.eq_iff_iff, may_iff]
  exact ⟨fun h => h.2.2, fun h => ⟨hb, ha, h⟩⟩
theorem any_congr {α : Type} {f g : α → Bool} : ∀ {x : List α}, (∀ y ∈ x, f y = g y) → anyBy x f = anyBy x g := fun {x} h => by
  rw [Bool.eq_iff_iff, any_iff, any_iff]
  exact ⟨fun ⟨y, hy, e⟩ => ⟨y, hy, by rw [← h y hy]; exact e⟩, fun ⟨y, hy, e⟩ => ⟨y, hy, by rw [h y hy]; exact e⟩⟩
theorem lets_acts (hc : checkC l acts = 0) {p : Pol} (hp : has l p.1 = true ∧ ∀ s ∈ p.2, has l s = true) {s : Txt} (hs : has l s = true) : letsB (mayB l acts) p s = letsB (actsF acts) p s := by
  unfold letsB
  rw [may_acts hc hs hp.1, any_congr fun r hr => may_acts hc hs (hp.2 r hr)]
theorem covers_acts (hc : checkC l acts = 0) {p x : Pol} (hp : has l p.1 = true ∧ ∀ s ∈ p.2, has l s = true) (hx : has l x.1 = true ∧ ∀ s ∈ x.2, has l s = true) : coversB (mayB l acts) p x = coversB (actsF acts) p x := by
  unfold coversB
  rw [may_acts hc hp.1 hx.1, any_congr fun r hr => by rw [lets_acts hc hx (hp.2 r hr)]]
theorem flows_acts (hc : checkC l acts = 0) {a b : Lab} (ha : RightL l a) (hb : RightL l b) : flowsB (mayB l acts) a b = flowsB (actsF acts) a b := by
  unfold flowsB
  rw [any_congr fun x hx => by rw [any_congr fun p hp => covers_acts hc ⟨(hb p hp).2.1, (hb p hp).2.2⟩ ⟨(ha x hx).2.1, (ha x hx).2.2⟩]]
theorem reads_acts (hc : checkC l acts = 0) {x : Lab} (hx : RightL l x) : readsL (mayB l acts) l x = readsL (actsF acts) l x := by
  unfold readsL
  refine List.filter_congr fun s hs => ?_
  rw [any_congr fun p hp => by rw [lets_acts hc ⟨(hx p hp).2.1, (hx p hp).2.2⟩ (has_iff.2 hs)]]
end
end Go.Proofs.YtcgihpfanfbonaaGreatDoor
namespace Go.Proofs.YtcgihpfanfbonaaGreatDoor
set_option linter.unusedVariables false
set_option linter.unusedSimpArgs false

theorem snoc_ind {α : Type} {P : List α → Prop} (l : List α) (nil : P []) (snoc : ∀ (l : List α) y, P l → P (l ++ [y])) : P l := by
  have : ∀ m : List α, P m.reverse := fun m => by
    induction m with
    | nil => exact nil
    | cons y m ih => rw [List.reverse_cons]; exact snoc _ y ih
  have h := this l.reverse
  rwa [List.reverse_reverse] at h
/-- First occurrences. -/
def firstsTo {α : Type} [DecidableEq α] (l : List α) : List α := l.foldl (fun t x => if x ∈ t then t else t ++ [x]) []
theorem firsts_snoc {α : Type} [DecidableEq α] (l : List α) (x : α) : firstsTo (l ++ [x]) = if x ∈ firstsTo l then firstsTo l else firstsTo l ++ [x] := by
  unfold firstsTo; rw [List.foldl_append]; rfl
theorem mem_firsts {α : Type} [DecidableEq α] {x : α} (l : List α) : x ∈ firstsTo l ↔ x ∈ l := by
  induction l using snoc_ind with
  | nil => exact Iff.rfl
  | snoc l y ih =>
    rw [firsts_snoc]
    split
    · rename_i h
      rw [ih, List.mem_append, List.mem_singleton]
      constructor
      · exact .inl
      · rintro (h1 | rfl)
        · exact h1
        · exact ih.1 h
    · rw [List.mem_append, List.mem_append, ih]
theorem firsts_nodup {α : Type} [DecidableEq α] (l : List α) : (firstsTo l).Nodup := by
  induction l using snoc_ind with
  | nil => exact List.nodup_nil
  | snoc l y ih =>
    rw [firsts_snoc]
    split
    · exact ih
    · rename_i h
      rw [List.nodup_append]
      exact ⟨ih, by simp, fun a ha b hb => by
        rw [List.mem_singleton] at hb
        subst hb
        rintro rfl
        exact h ha⟩
theorem firsts_le {α : Type} [DecidableEq α] (l : List α) : (firstsTo l).length ≤ l.length := by
  induction l using snoc_ind with
  | nil => exact Nat.le_refl _
  | snoc l y ih =>
    rw [firsts_snoc]
    split <;> simp <;> omega
theorem firsts_map {α β : Type} [DecidableEq α] [DecidableEq β] {f : α → β} (l : List α) (hf : ∀ a ∈ l, ∀ b ∈ l, f a = f b → a = b) : firstsTo (l.map f) = (firstsTo l).map f := by
  induction l using snoc_ind with
  | nil => rfl
  | snoc l y ih =>
    have ih' := ih fun a ha b hb => hf a (List.mem_append_left _ ha) b (List.mem_append_left _ hb)
    rw [List.map_append, List.map_cons, List.map_nil, firsts_snoc, firsts_snoc, ih']
    have : f y ∈ (firstsTo l).map f ↔ y ∈ firstsTo l := by
      rw [List.mem_map]
      constructor
      · rintro ⟨a, ha, e⟩
        rw [← hf a (List.mem_append_left _ ((mem_firsts l).1 ha)) y (by simp) e]
        exact ha
      · intro h; exact ⟨y, h, rfl⟩
    by_cases h : y ∈ firstsTo l
    · rw [if_pos (this.2 h), if_pos h]
    · rw [if_neg (fun h' => h (this.1 h')), if_neg h, List.map_append]; rfl

/-- Sorted lists without doubles that have the same are the same. -/
theorem rising_same {α : Type} {f : α → α → Int} (hf : Tot f) {l m : List α} (hl : Rising f l) (hm : Rising f m) (h : ∀ x, x ∈ l ↔ x ∈ m) : l = m :=
  hf.unique ((List.perm_ext_iff_of_nodup (hf.nodup hl) (hf.nodup hm)).2 h) hl.up hm.up
theorem srt_nodup_rising {α : Type} {f : α → α → Int} (hf : Tot f) {l : List α} (hn : l.Nodup) : Rising f (srt f l) := by
  have hu := hf.srt_up l
  have hn' : (srt f l).Nodup := (srt_perm f l).nodup_iff.2 hn
  refine List.Pairwise.imp_of_mem (fun {a b} ha hb h => ?_) (hu.and hn')
  obtain ⟨h1, h2⟩ := h
  have : f a b ≠ 0 := fun e => h2 ((hf.zero a b).1 e)
  omega

/-- The readers of the document: each once, without the owner, as they come. -/
def readersF (o : Txt) (l : List Txt) : List Txt := (firstsTo l).filter fun r => decide (r ≠ o)
theorem readersF_plain (o : Txt) (l : List Txt) : srt cmpT (readersF o l) = plainR o l := by
  refine rising_same cmpT_tot (srt_nodup_rising cmpT_tot ((firsts_nodup l).sublist List.filter_sublist)) (plainR_rising o l) fun x => ?_
  rw [mem_srt, mem_plainR]
  unfold readersF
  rw [List.mem_filter, mem_firsts, decide_eq_true_eq]

def zeroT : Txt := ⟨#[0]⟩
/-- The document's key of a policy. -/
def keyT (p : Pol) : Txt := p.1 ++ zeroT ++ joinT p.2 zeroT
/-- A text with something in it and no zero. -/
def FullT (s : Txt) : Prop := bytesOf s ≠ [] ∧ (0 : UInt8) ∉ bytesOf s
theorem split_zero : ∀ {x y u v : List UInt8}, (0 : UInt8) ∉ x → (0 : UInt8) ∉ y → x ++ 0 :: u = y ++ 0 :: v → x = y ∧ u = v
  | [], [], _, _, _, _, h => ⟨rfl, by simpa using h⟩
  | [], b :: y, _, _, _, hy, h => by
    rw [List.nil_append, List.cons_append, List.cons.injEq] at h
    exact absurd (by rw [h.1]; simp) hy
  | a :: x, [], _, _, hx, _, h => by
    rw [List.nil_append, List.cons_append, List.cons.injEq] at h
    exact absurd (by rw [h.1]; simp) hx
  | a :: x, b :: y, u, v, hx, hy, h => by
    rw [List.cons_append, List.cons_append, List.cons.injEq] at h
    obtain ⟨h1, h2⟩ := split_zero (fun m => hx (List.mem_cons_of_mem _ m)) (fun m => hy (List.mem_cons_of_mem _ m)) h.2
    exact ⟨by rw [h.1, h1], h2⟩
/-- Texts with a zero ahead of each. -/
def zeroTail (l : List Txt) : List UInt8 := (l.map fun x => 0 :: bytesOf x).flatten
theorem join_bytes (l : List Txt) : bytesOf (joinT l zeroT) = match l with | [] => [] | x :: l => bytesOf x ++ zeroTail l := by
  cases l with
  | nil => rfl
  | cons x l =>
    unfold joinT
    rw [List.map_cons, Lib.join_cons]
    show (bytesT _).data.toList = _
    unfold bytesT zeroTail Lib.joinTail
    simp only [List.map_map]
    rfl
theorem tail_inj : ∀ {l m : List Txt}, (∀ x ∈ l, FullT x) → (∀ x ∈ m, FullT x) → zeroTail l = zeroTail m → l = m
  | [], [], _, _, _ => rfl
  | [], y :: m, _, _, h => by simp [zeroTail] at h
  | x :: l, [], _, _, h => by simp [zeroTail] at h
  | x :: l, y :: m, hl, hm, h => by
    have hx := hl x List.mem_cons_self
    have hy := hm y List.mem_cons_self
    have h' : bytesOf x ++ zeroTail l = bytesOf y ++ zeroTail m := by
      have : (0 : UInt8) :: (bytesOf x ++ zeroTail l) = 0 :: (bytesOf y ++ zeroTail m) := by simpa [zeroTail] using h
      exact (List.cons.inj this).2
    have hd : ∀ l : List Txt, zeroTail l = [] ∧ l = [] ∨ ∃ u, zeroTail l = 0 :: u := fun l => by
      cases l with
      | nil => exact .inl ⟨rfl, rfl⟩
      | cons z l => exact .inr ⟨_, by simp [zeroTail]; rfl⟩
    have key : bytesOf x = bytesOf y ∧ zeroTail l = zeroTail m := by
      rcases hd l with ⟨e1, e2⟩ | ⟨u, e1⟩
      · rcases hd m with ⟨e3, e4⟩ | ⟨v, e3⟩
        · rw [e1, e3, List.append_nil, List.append_nil] at h'
          exact ⟨h', by rw [e1, e3]⟩
        · rw [e1, e3, List.append_nil] at h'
          exact absurd (by rw [h']; simp) hx.2
      · rcases hd m with ⟨e3, e4⟩ | ⟨v, e3⟩
        · rw [e1, e3, List.append_nil] at h'
          exact absurd (by rw [← h']; simp) hy.2
        · rw [e1, e3] at h'
          obtain ⟨h1, h2⟩ := split_zero hx.2 hy.2 h'
          exact ⟨h1, by rw [e1, e3, h2]⟩
    rw [txt_ext key.1, tail_inj (fun z hz => hl z (List.mem_cons_of_mem _ hz)) (fun z hz => hm z (List.mem_cons_of_mem _ hz)) key.2]
theorem key_bytes (p : Pol) : bytesOf (keyT p) = bytesOf p.1 ++ 0 :: bytesOf (joinT p.2 zeroT) := by
  unfold keyT
  rw [bytesOf_append, bytesOf_append, List.append_assoc]
  rfl
theorem keyT_inj {p x : Pol} (h1 : FullT p.1) (h2 : ∀ s ∈ p.2, FullT s) (h3 : FullT x.1) (h4 : ∀ s ∈ x.2, FullT s) (h : keyT p = keyT x) : p = x := by
  have hb := congrArg bytesOf h
  rw [key_bytes, key_bytes] at hb
  obtain ⟨e1, e2⟩ := split_zero h1.2 h3.2 hb
  have e3 : p.2 = x.2 := by
    rw [join_bytes, join_bytes] at e2
    obtain ⟨po, pr⟩ := p
    obtain ⟨xo, xr⟩ := x
    simp only at *
    cases pr with
    | nil =>
      cases xr with
      | nil => rfl
      | cons y m =>
        simp only at e2
        have := (h4 y List.mem_cons_self).1
        cases hy : bytesOf y with
        | nil => exact absurd hy this
        | cons => rw [hy] at e2; cases e2
    | cons y m =>
      cases xr with
      | nil =>
        simp only at e2
        have := (h2 y List.mem_cons_self).1
        cases hy : bytesOf y with
        | nil => exact absurd hy this
        | cons => rw [hy] at e2; cases e2
      | cons z n =>
        simp only at e2
        exact tail_inj h2 h4 (by
          show (0 :: bytesOf y) ++ zeroTail m = (0 :: bytesOf z) ++ zeroTail n
          rw [List.cons_append, List.cons_append, e2])
  exact Prod.ext (txt_ext e1) e3

/-- Policies of full texts. -/
def FullL (x : Lab) : Prop := ∀ p ∈ x, FullT p.1 ∧ ∀ s ∈ p.2, FullT s
theorem full_plain {x : Lab} (h : FullL x) : FullL (x.map plainP) := fun p hp => by
  obtain ⟨y, hy, rfl⟩ := List.mem_map.1 hp
  exact ⟨(h y hy).1, fun s hs => (h y hy).2 s (mem_plainR.1 hs).1⟩
theorem name_full {s : Txt} (h : isName s = true) : FullT s := by
  have h1 : 1 ≤ s.size := by
    apply Decidable.byContradiction
    intro hn
    rw [isName_empty hn] at h
    cases h
  refine ⟨fun e => by rw [← bytesOf_len, e] at h1; simp at h1, fun h0 => ?_⟩
  have hall : (List.range s.size).all (okAt s) = true := by
    unfold isName at h
    simp only [Bool.and_eq_true] at h
    exact h.2
  obtain ⟨j, hj, e⟩ := List.getElem_of_mem h0
  have hj' : j < s.size := by rw [← bytesOf_len]; exact hj
  have := List.all_eq_true.1 hall j (List.mem_range.2 hj')
  unfold okAt at this
  have e' : s.data.toList.getD j 0 = 0 := by
    have : (bytesOf s).getD j 0 = (bytesOf s)[j] := by
      simp [List.getD, hj]
      rfl
    exact this.trans e
  rw [e'] at this
  have d1 : letterB ((0 : UInt8).toNat : Nat) = false := by decide +kernel
  have d2 : digitB ((0 : UInt8).toNat : Nat) = false := by decide +kernel
  rw [d1, d2] at this
  simp at this
theorem names_full {l : List Txt} (h : errNames l = 0) : ∀ s ∈ l, FullT s := fun s hs => by
  obtain ⟨j, hj, rfl⟩ := List.getElem_of_mem hs
  refine name_full ?_
  have hn : nameErr l j = 0 := by
    apply Decidable.byContradiction
    intro hne
    unfold errNames at h
    cases hf : (List.range l.length).find? (fun i => nameErr l i != 0) with
    | none =>
      rw [List.find?_eq_none] at hf
      have := hf j (List.mem_range.2 hj)
      simp at this
      exact hne this
    | some k =>
      rw [hf] at h
      have h1 := List.find?_some hf
      have h2 : nameErr l k = 0 := h
      simp [h2] at h1
  unfold nameErr at hn
  rw [getD_at hj] at hn
  cases e : isName l[j] with
  | true => rfl
  | false => rw [e] at hn; simp at hn
theorem right_full {l : List Txt} {acts : List (Txt × Txt)} (hc : checkC l acts = 0) {x : Lab} (h : RightL l x) : FullL x := fun p hp =>
  ⟨names_full (checkC_zero hc).2.2.1 _ (has_iff.1 (h p hp).2.1), fun s hs => names_full (checkC_zero hc).2.2.1 _ (has_iff.1 ((h p hp).2.2 s hs))⟩

/-- The document's sorted keys are those of the sorted policies. -/
theorem sorted_firsts (x : Lab) {d : Lab} (hp : d.Perm (firstsTo (x.map plainP))) (hu : Upward cmpPol d) : d = allOf x := by
  have hn : d.Nodup := hp.nodup_iff.2 (firsts_nodup _)
  have hr : Rising cmpPol d := by
    refine List.Pairwise.imp_of_mem (fun {a b} ha hb h => ?_) (hu.and hn)
    obtain ⟨h1, h2⟩ := h
    have : cmpPol a b ≠ 0 := fun e => h2 ((cmpPol_tot.zero a b).1 e)
    omega
  refine rising_same cmpPol_tot hr (allOf_rising x) fun p => ?_
  rw [hp.mem_iff, mem_firsts, mem_allOf, List.mem_map]
/-- The normal form hangs on whom policies cover alone. -/
theorem norm_acts {l : List Txt} {acts : List (Txt × Txt)} (hc : checkC l acts = 0) {x : Lab} (hx : RightL l x) : normL (mayB l acts) x = normL (actsF acts) x := by
  unfold normL normOf
  have hin : ∀ p ∈ allOf x, has l p.1 = true ∧ ∀ s ∈ p.2, has l s = true := fun p hp => by
    obtain ⟨y, hy, rfl⟩ := mem_allOf.1 hp
    exact ⟨(hx y hy).2.1, fun s hs => (hx y hy).2.2 s (mem_plainR.1 hs).1⟩
  refine List.filter_congr fun y hy => ?_
  congr 1
  unfold goneB
  rw [Bool.eq_iff_iff, List.any_eq_true, List.any_eq_true]
  have e : ∀ p ∈ allOf x, (decide (p ≠ y) && coversB (mayB l acts) p y && (decide (cmpPol p y < 0) || !coversB (mayB l acts) y p)) = (decide (p ≠ y) && coversB (actsF acts) p y && (decide (cmpPol p y < 0) || !coversB (actsF acts) y p)) := fun p hp => by
    rw [covers_acts hc (hin p hp) (hin y hy), covers_acts hc (hin y hy) (hin p hp)]
  constructor
  · rintro ⟨p, hp, h⟩; exact ⟨p, hp, by rw [← e p hp]; exact h⟩
  · rintro ⟨p, hp, h⟩; exact ⟨p, hp, by rw [e p hp]; exact h⟩
end Go.Proofs.YtcgihpfanfbonaaGreatDoor
namespace Go.Proofs.YtcgihpfanfbonaaGreatDoor
open Go.RowKit
set_option linter.unusedVariables false
set_option linter.unusedSimpArgs false

/-- `[]int`. -/
abbrev Nums (w : World) (l : List Int) (v : Value) : Prop := SliceOf num 1 w l v
theorem Nums.stays {w w' : World} (hk : Keeps w w') {l : List Int} {v : Value} (h : Nums w l v) : Nums w' l v := SliceOf.stays (One.stays _) hk h
/-- A slice of data of one cell each, opened: its length, its room; its cells. -/
theorem One.cells {α : Type} {f : α → Value} {w : World} {l : List α} {v : Value} (h : SliceOf (One f) 1 w l v) :
    ∃ b o c p, v = .slice p l.length c ∧ l.length ≤ c ∧ c ≤ 9223372036854775807 ∧ (0 < l.length → p = some ⟨b, o, none⟩) ∧ ∀ (i : Nat) (h : i < l.length), w.cell? ⟨b, o + i, none⟩ = some (f l[i]) := by
  obtain ⟨p, c, e, h1, h2, h3⟩ := h
  unfold maxLen at h2
  rcases h3 with rfl | ⟨b, o, hp, h3⟩
  · exact ⟨0, 0, c, p, e, h1, by omega, fun h => absurd h (by simp), fun i h => absurd h (by simp)⟩
  · refine ⟨b, o, c, p, e, h1, by omega, fun _ => hp, fun i hi => ?_⟩
    obtain ⟨vs, g1, g2, g3⟩ := h3 i hi
    have := g3 0 (f l[i]) (by rw [g1]; rfl)
    simpa using this

theorem eq_len {α : Type} [BEq α] {l m : List α} (h : l.length ≠ m.length) : (l == m) = false := by
  induction l generalizing m with
  | nil => cases m with
    | nil => simp at h
    | cons y m => rfl
  | cons x l ih => cases m with
    | nil => rfl
    | cons y m =>
      have : (l == m) = false := ih (by simpa using h)
      show (x == y && l == m) = false
      rw [this]; simp
theorem eq_at {α : Type} [BEq α] [LawfulBEq α] {l m : List α} {k : Nat} (h1 : k < l.length) (h2 : k < m.length) (h : (l[k] == m[k]) = false) : (l == m) = false := by
  rw [beq_eq_false_iff_ne]
  rintro rfl
  simp at h
theorem eq_all {α : Type} [BEq α] [LawfulBEq α] {l m : List α} (hn : l.length = m.length) (h : ∀ j (h1 : j < l.length) (h2 : j < m.length), (l[j] == m[j]) = true) : (l == m) = true := by
  rw [beq_iff_eq]
  exact List.ext_getElem hn fun j h1 h2 => by simpa using h j h1 h2

theorem below_drewN {B : Nat} {a w : World} (h : Below B a w) (n : Nat) : Below B a (w.drewN n) := ⟨h.os, h.tape, h.output, h.size, h.block⟩
/-- The world is the old one, but for answers drawn. -/
def Quiet (w w' : World) : Prop := ∃ n, w' = w.drewN n
theorem Quiet.below {w w' : World} (h : Quiet w w') : Below w.heap.size w w' := by
  obtain ⟨n, rfl⟩ := h
  have h := Below.refl w.heap.size w
  exact ⟨h.os, h.tape, h.output, h.size, h.block⟩

end Go.Proofs.YtcgihpfanfbonaaGreatDoor
namespace Go.Proofs.YtcgihpfanfbonaaGreatDoor
open Go.RowKit
set_option linter.unusedVariables false
set_option linter.unusedSimpArgs false

theorem text_ne {x y : Txt} (h : ¬ x = y) : (x.toList == y.toList) = false := by
  cases e : (x.toList == y.toList) with
  | false => rfl
  | true => exact absurd (bytes_eq.1 e) h
set_option maxHeartbeats 400000 in
theorem equalS_calls (l m : List Txt) (v u : Value) (w : World) (hv : Strs w l v) (hu : Strs w m u) :
    Calls Tryz.prog 41 #[v, u] w fun e w' => e = .returned (.bool (l == m)) ∧ ∃ n, w' = w.drewN n := by
  obtain ⟨b, o, c, p, rfl, hlc, hc, hp, hcells⟩ := One.cells hv
  obtain ⟨b2, o2, c2, p2, rfl, hlc2, hc2, hp2, hcells2⟩ := One.cells hu
  clear hv hu
  by_cases hn : l.length = m.length
  · have HN := Lib.hid hn
    have hn1 : ((l.length : Int) != (m.length : Int)) = false := by simp [hn]
    have hn2 : ((l.length : Int) == (m.length : Int)) = true := by simp [hn]
    clear hn
    go_enter Tryz.func41, Tryz.ntmps41
    go_wp2
    go_loopw [5, 13] (fun _ i wr => ∃ k : Nat, k ≤ l.length ∧ i = .int .i64 k ∧ (∃ n, wr = w.drewN n) ∧ Hid (∀ j (h1 : j < l.length) (h2 : j < m.length), j < k → (l[j] == m[j]) = true)) (fun _ i _ => l.length - (intOf i).toNat)
    case atStart => exact ⟨0, Nat.zero_le _, rfl, ⟨0, rfl⟩, fun j _ _ hj => absurd hj (Nat.not_lt_zero _)⟩
    case round =>
      obtain ⟨k, hk, rfl, ⟨n, rfl⟩, HE⟩ := hrel
      by_cases hlt : k < l.length
      · have hlt2 : k < m.length := by have := HN.out; omega
        have hcell := hcells k hlt
        have hcell2 := hcells2 k hlt2
        obtain rfl := hp (by omega)
        obtain rfl := hp2 (by omega)
        clear hp hp2 hcells hcells2
        cases he : l[k] == m[k] with
        | true =>
          have HX : Hid ((l[k] == m[k]) = true) := he
          have he' : (l[k].toList == m[k].toList) = true := bytes_eq.2 (by simpa using he)
          clear he
          go_wp2
          go_quiet (fail)
          go_wp2
          go_roundw
          case rel =>
            refine ⟨k + 1, by omega, by go_num, ⟨n + nq, rfl⟩, fun j h1 h2 hj => ?_⟩
            by_cases e : j = k
            · subst e; exact HX.out
            · exact HE.out j h1 h2 (by omega)
          case measure => simp [intOf]; omega
        | false =>
          have HX : Hid ((l == m) = false) := eq_at hlt hlt2 he
          have he' : (l[k].toList == m[k].toList) = false := text_ne (by simpa using he)
          clear he
          go_wp2
          go_quiet (fail)
          go_wp2
          go_ret
          exact ⟨ret_bool HX.out.symm, ⟨n + nq, by first | rw [World.drewN_drewN] | rfl⟩⟩
      · have HX : Hid ((l == m) = true) := eq_all HN.out fun j h1 h2 => HE.out j h1 h2 (by omega)
        go_wp2
        go_ret
        exact ⟨ret_bool HX.out.symm, ⟨n, rfl⟩⟩
  · have HX : Hid ((l == m) = false) := eq_len hn
    have hn1 : ((l.length : Int) != (m.length : Int)) = true := by simp; omega
    have hn2 : ((l.length : Int) == (m.length : Int)) = false := by simp; omega
    clear hn
    go_enter Tryz.func41, Tryz.ntmps41
    go_wp2
    go_ret
    exact ⟨ret_bool HX.out.symm, ⟨0, rfl⟩⟩
end Go.Proofs.YtcgihpfanfbonaaGreatDoor
namespace Go.Proofs.YtcgihpfanfbonaaGreatDoor
open Go.RowKit
set_option linter.unusedVariables false
set_option linter.unusedSimpArgs false

theorem nanStr_calls (a : Txt) (w : World) : Calls Tryz.prog 124 #[.string a] w fun e w' => e = .returned (.bool false) ∧ w = w' := by
  have n1 : (a.toList != a.toList) = false := by simp
  go_enter Tryz.func124, Tryz.ntmps124
  go_wp2
  go_ret
  exact ⟨rfl, rfl⟩
theorem less_lt (a b : Txt) : Op.bytesLess a.toList b.toList = decide (cmpT a b < 0) := by
  rw [Go.Proofs.bytesLess_eq, ByteArray.toList_eq, ByteArray.toList_eq]
  unfold cmpT
  rw [decide_eq_decide, compareBytes_lt]
  rfl
theorem cmpT_vals (a b : Txt) : cmpT a b = -1 ∨ cmpT a b = 0 ∨ cmpT a b = 1 := by
  unfold cmpT
  generalize bytesOf a = x
  generalize bytesOf b = y
  induction x generalizing y with
  | nil => cases y <;> simp [Lib.compareBytes]
  | cons c x ih =>
    cases y with
    | nil => simp [Lib.compareBytes]
    | cons d y =>
      unfold Lib.compareBytes
      split
      · simp
      · split
        · simp
        · exact ih y
theorem cmpStr_calls (a b : Txt) (w : World) :
    Calls Tryz.prog 82 #[.string a, .string b] w fun e w' => e = .returned (.int .i64 (cmpT a b)) ∧ w = w' := by
  have hl := less_lt a b
  rcases cmpT_vals a b with h | h | h
  · have hl' : Op.bytesLess a.toList b.toList = true := by rw [hl, h]; rfl
    rw [h]
    clear hl h
    go_enter Tryz.func82, Tryz.ntmps82
    go_wp2_with (go_at_call 124; refine (nanStr_calls _ _).mono ?_; rintro e w' ⟨rfl, rfl⟩)
    go_ret
    exact ⟨rfl, rfl⟩
  · have hl' : Op.bytesLess a.toList b.toList = false := by rw [hl, h]; rfl
    have he : (a.toList == b.toList) = true := by
      rw [(cmpT_tot.zero a b).1 h]; simp
    rw [h]
    clear hl h
    go_enter Tryz.func82, Tryz.ntmps82
    go_wp2_with (go_at_call 124; refine (nanStr_calls _ _).mono ?_; rintro e w' ⟨rfl, rfl⟩)
    go_ret
    exact ⟨rfl, rfl⟩
  · have hl' : Op.bytesLess a.toList b.toList = false := by rw [hl, h]; rfl
    have he : (a.toList == b.toList) = false := by
      apply text_ne
      intro e
      rw [(cmpT_tot.zero a b).2 e] at h
      omega
    rw [h]
    clear hl h
    go_enter Tryz.func82, Tryz.ntmps82
    go_wp2_with (go_at_call 124; refine (nanStr_calls _ _).mono ?_; rintro e w' ⟨rfl, rfl⟩)
    go_ret
    exact ⟨rfl, rfl⟩

/-- What is left from a place on decides. -/
theorem lexC_skip {l m : List Txt} {k : Nat} (h1 : k < l.length) (h2 : k < m.length) (h : cmpT l[k] m[k] = 0) : lexC cmpT (l.drop k) (m.drop k) = lexC cmpT (l.drop (k + 1)) (m.drop (k + 1)) := by
  rw [List.drop_eq_getElem_cons h1, List.drop_eq_getElem_cons h2, lexC, if_pos h]
theorem lexC_part {l m : List Txt} {k : Nat} (h1 : k < l.length) (h2 : k < m.length) (h : cmpT l[k] m[k] ≠ 0) : lexC cmpT (l.drop k) (m.drop k) = cmpT l[k] m[k] := by
  rw [List.drop_eq_getElem_cons h1, List.drop_eq_getElem_cons h2, lexC, if_neg h]
theorem lexC_longer {l m : List Txt} {k : Nat} (h1 : k < l.length) (h2 : m.length ≤ k) : lexC cmpT (l.drop k) (m.drop k) = 1 := by
  rw [List.drop_eq_getElem_cons h1, List.drop_of_length_le h2, lexC]
theorem lexC_end {l m : List Txt} {k : Nat} (h1 : l.length ≤ k) : lexC cmpT (l.drop k) (m.drop k) = if k < m.length then -1 else 0 := by
  rw [List.drop_of_length_le h1]
  split
  · rename_i h
    rw [List.drop_eq_getElem_cons h, lexC]
  · rw [List.drop_of_length_le (by omega), lexC]

set_option maxHeartbeats 1000000 in
theorem cmpStrs_calls (l m : List Txt) (v u : Value) (w : World) (hv : Strs w l v) (hu : Strs w m u) :
    Calls Tryz.prog 48 #[v, u] w fun e w' => e = .returned (.int .i64 (lexC cmpT l m)) ∧ w = w' := by
  obtain ⟨b, o, c, p, rfl, hlc, hc, hp, hcells⟩ := hv.cells
  obtain ⟨b2, o2, c2, p2, rfl, hlc2, hc2, hp2, hcells2⟩ := hu.cells
  clear hv hu
  go_enter Tryz.func48, Tryz.ntmps48
  go_wp2
  go_loop [5, 6, 7, 8, 11] (fun _ _ _ _ i => ∃ k : Nat, k ≤ l.length ∧ k ≤ m.length ∧ i = .int .i64 k ∧ Hid (lexC cmpT (l.drop k) (m.drop k) = lexC cmpT l m)) (fun _ _ _ _ i => l.length - (intOf i).toNat)
  case atStart => exact ⟨0, Nat.zero_le _, Nat.zero_le _, rfl, rfl⟩
  case round =>
    obtain ⟨k, hk, hkm, rfl, HE⟩ := hrel
    by_cases hlt : k < l.length
    · by_cases hltm : k < m.length
      · have g1 := hcells k hlt
        have g2 := hcells2 k hltm
        obtain rfl := hp (by omega)
        obtain rfl := hp2 (by omega)
        have h1 : (k : Int) < (l.length : Int) := by omega
        have h2 : (k : Int) < (m.length : Int) := by omega
        by_cases hz : cmpT l[k] m[k] = 0
        · have HX : Hid (lexC cmpT (l.drop (k + 1)) (m.drop (k + 1)) = lexC cmpT l m) := by rw [← HE.out]; exact (lexC_skip hlt hltm hz).symm
          have HZ := Lib.hid hz
          clear hp hp2 hcells hcells2 hz
          go_wp2_with (fail)
          refine (cmpStr_calls _ _ _).mono ?_
          rintro e w1 ⟨rfl, rfl⟩
          rw [HZ.out]
          go_wp2
          go_round
          case rel => exact ⟨k + 1, by omega, by omega, by go_num, HX⟩
          case measure => simp [intOf]; omega
        · have HX : Hid (cmpT l[k] m[k] = lexC cmpT l m) := by rw [← HE.out]; exact (lexC_part hlt hltm hz).symm
          have q1 : (cmpT l[k] m[k] != 0) = true := by simpa using hz
          have q2 : (cmpT l[k] m[k] == 0) = false := by simpa using hz
          clear hp hp2 hcells hcells2 hz
          go_wp2_with (fail)
          refine (cmpStr_calls _ _ _).mono ?_
          rintro e w1 ⟨rfl, rfl⟩
          generalize cmpT l[k] m[k] = z at *
          go_wp2
          go_ret
          exact ⟨by rw [HX.out]; rfl, rfl⟩
      · have HX : Hid (lexC cmpT l m = 1) := by rw [← HE.out]; exact lexC_longer hlt (by omega)
        obtain rfl : k = m.length := by omega
        have g1 := hcells m.length hlt
        obtain rfl := hp (by omega)
        clear hp hp2 hcells hcells2 hltm
        go_wp2
        go_ret
        exact ⟨by rw [HX.out]; rfl, rfl⟩
    · have HX : Hid (lexC cmpT l m = if k < m.length then -1 else 0) := by rw [← HE.out]; exact lexC_end (by omega)
      obtain rfl : k = l.length := by omega
      clear hp hp2 hcells hcells2 hlt
      by_cases hm : l.length < m.length
      · have HX' : Hid (lexC cmpT l m = -1) := by unfold Hid; rw [HX.out, if_pos hm]
        go_wp2
        go_ret
        exact ⟨by rw [HX'.out]; rfl, rfl⟩
      · have HX' : Hid (lexC cmpT l m = 0) := by unfold Hid; rw [HX.out, if_neg hm]
        go_wp2
        go_ret
        exact ⟨by rw [HX'.out]; rfl, rfl⟩

set_option maxHeartbeats 1000000 in
theorem compare_calls (p x : Pol) (vp vx : Value) (w : World) (hp : Strs w p.2 vp) (hx : Strs w x.2 vx) :
    Calls Tryz.prog 63 #[.agg #[.string p.1, vp], .agg #[.string x.1, vx]] w fun e w' => e = .returned (.int .i64 (cmpPol p x)) ∧ ∃ os, w' = Go.Sort.grow w os := by
  obtain ⟨b, o, c, a, rfl, _⟩ := hp.cells
  obtain ⟨b2, o2, c2, a2, rfl, _⟩ := hx.cells
  obtain ⟨W2, eW⟩ : ∃ W2, (w.alloc (.cells #[.string p.1, .slice a p.2.length c] 37)).alloc (.cells #[.string x.1, .slice a2 x.2.length c2] 37) = W2 := ⟨_, rfl⟩
  obtain ⟨z2, hW, m1, m2⟩ := boxes2 eW
  have h10 := m1 0
  have h11 := m1 1
  have h20 := m2 0
  have h21 := m2 1
  simp only [List.getElem?_toArray, List.getElem?_cons_zero, List.getElem?_cons_succ] at h10 h11 h20 h21
  have HG : Hid (∃ os, W2 = Go.Sort.grow w os) := ⟨_, by rw [← eW, Go.Sort.alloc_eq_grow, Go.Sort.alloc_eq_grow, Go.Sort.grow_grow]⟩
  have HP := Lib.hid (hp.stays (keeps_of_below hW))
  have HX := Lib.hid (hx.stays (keeps_of_below hW))
  clear m1 m2 hW z2 hp hx
  have hC : Lib.compareBytes p.1.data.toList x.1.data.toList = cmpT p.1 x.1 := rfl
  by_cases hz : cmpT p.1 x.1 = 0
  · have HE : Hid (cmpPol p x = lexC cmpT p.2 x.2) := by unfold Hid cmpPol pairC; rw [if_pos hz]
    have HC := Lib.hid (hC.trans hz)
    clear hC hz
    go_enter Tryz.func63, Tryz.ntmps63
    go_wp2_with (fail)
    refine (Tryz.strings_Compare _ _ _).mono ?_
    rintro e w' ⟨rfl, rfl⟩
    rw [HC.out]
    go_wp2_with (fail)
    refine (cmpStrs_calls p.2 x.2 _ _ _ HP.out HX.out).mono ?_
    rintro e w' ⟨rfl, rfl⟩
    go_wp2
    go_ret
    exact ⟨by rw [HE.out]; rfl, HG.out⟩
  · have HE : Hid (cmpPol p x = cmpT p.1 x.1) := by unfold Hid cmpPol pairC; rw [if_neg hz]
    have HC := Lib.hid hC
    have q1 : (cmpT p.1 x.1 != 0) = true := by simpa using hz
    have q2 : (cmpT p.1 x.1 == 0) = false := by simpa using hz
    clear hC hz
    go_enter Tryz.func63, Tryz.ntmps63
    go_wp2_with (fail)
    refine (Tryz.strings_Compare _ _ _).mono ?_
    rintro e w' ⟨rfl, rfl⟩
    rw [HC.out]
    go_wp2
    go_ret
    exact ⟨by rw [HE.out]; rfl, HG.out⟩
end Go.Proofs.YtcgihpfanfbonaaGreatDoor
