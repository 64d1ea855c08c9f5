/-
  Plain law: the least labels that hold bounds. Plain law: what a bound brings, by the document: all labels at once; by the program: one joined to the next. Bounds and labels as they lie in memory. slices.IndexFunc and ContainsFunc over numbers; solve.check and solve.into.
-/
import Derived.Test.YtcgihpfanfbonaaGreatDoorLN05
import Derived.Test.YtcgihpfanfbonaaGreatDoorLN24
namespace Go.Proofs.YtcgihpfanfbonaaGreatDoor
open Go.RowKit
set_option linter.unusedVariables false
set_option linter.unusedSimpArgs false

/-- A bound: From, L, To, Into, At, For. -/
abbrev Bnd := List Int × (Lab × (Int × (Lab × (Int × List Txt))))
abbrev bFrom (b : Bnd) : List Int := b.1
abbrev bL (b : Bnd) : Lab := b.2.1
abbrev bTo (b : Bnd) : Int := b.2.2.1
abbrev bInto (b : Bnd) : Lab := b.2.2.2.1
abbrev bFor (b : Bnd) : List Txt := b.2.2.2.2.2
/-- A label that is looked for. -/
def atL (m : List Lab) (k : Int) : Lab := (m[k.toNat]?).getD []
def joinsL (q : Txt → Txt → Bool) (m : List Lab) (s : Lab) (ks : List Int) : Lab := ks.foldl (fun s k => joinL q s (atL m k)) s
/-- What a bound brings. -/
def intoL (q : Txt → Txt → Bool) (m : List Lab) (b : Bnd) : Lab := lessL q (joinsL q m (bL b) (bFrom b)) (bFor b)
/-- The first error of a bound. -/
def bndErr (l : List Txt) (acts : List (Txt × Txt)) (n : Int) (b : Bnd) : Int :=
  if bTo b < -1 ∨ n ≤ bTo b ∨ (∃ k ∈ bFrom b, k < 0 ∨ n ≤ k) ∨ 400 < (bFrom b).length then 3
  else if labE l acts (bL b) ≠ 0 then labE l acts (bL b) else if labE l acts (bInto b) ≠ 0 then labE l acts (bInto b)
  else if 6 < (bFor b).length then 2 else if (bFor b).all (has l) then 0 else 5
def bndsErr (l : List Txt) (acts : List (Txt × Txt)) (n : Int) (bs : List Bnd) : Int := (bs.find? fun b => bndErr l acts n b != 0).elim 0 (bndErr l acts n)
def solveE (l : List Txt) (acts : List (Txt × Txt)) (n : Int) (bs : List Bnd) : Int :=
  if checkC l acts ≠ 0 then checkC l acts else if n < 0 ∨ 400 < n ∨ 400 < bs.length then 2 else bndsErr l acts n bs
theorem bndsErr_zero {l : List Txt} {acts : List (Txt × Txt)} {n : Int} {bs : List Bnd} : bndsErr l acts n bs = 0 ↔ ∀ b ∈ bs, bndErr l acts n b = 0 := by
  unfold bndsErr
  constructor
  · intro h b hb
    cases hf : bs.find? fun b => bndErr l acts n b != 0 with
    | none => simpa using List.find?_eq_none.1 hf b hb
    | some c =>
      rw [hf] at h
      have := List.find?_some hf
      have h' : bndErr l acts n c = 0 := h
      rw [h'] at this
      simp at this
  · intro h
    have : bs.find? (fun b => bndErr l acts n b != 0) = none := List.find?_eq_none.2 fun b hb => by simp [h b hb]
    rw [this]; rfl
theorem bndsErr_at {l : List Txt} {acts : List (Txt × Txt)} {n : Int} {bs : List Bnd} {k : Nat} (hk : k < bs.length) (h : bndErr l acts n bs[k] ≠ 0) (hne : ∀ j (hj : j < bs.length), j < k → bndErr l acts n bs[j] = 0) : bndsErr l acts n bs = bndErr l acts n bs[k] := by
  unfold bndsErr
  have : bs.find? (fun b => bndErr l acts n b != 0) = some bs[k] := by
    rw [List.find?_eq_some_iff_getElem]
    refine ⟨by simpa using h, k, hk, rfl, fun j hj => ?_⟩
    have := hne j (by omega) hj
    simp [this]
  rw [this]; rfl
/-- A right bound. -/
structure RightB (l : List Txt) (n : Int) (b : Bnd) : Prop where
  lo : -1 ≤ bTo b
  hi : bTo b < n
  from_ : ∀ k ∈ bFrom b, 0 ≤ k ∧ k < n
  few : (bFrom b).length ≤ 400
  lab : RightL l (bL b) ∧ (bL b).length ≤ 200
  into : RightL l (bInto b) ∧ (bInto b).length ≤ 200
  for_ : (bFor b).length ≤ 6 ∧ ∀ s ∈ bFor b, has l s = true
theorem rightB_of {l : List Txt} {acts : List (Txt × Txt)} {n : Int} {b : Bnd} (h : bndErr l acts n b = 0) : RightB l n b := by
  unfold bndErr at h
  split at h
  · omega
  · rename_i h1
    split at h
    · omega
    · rename_i h2
      split at h
      · omega
      · rename_i h3
        split at h
        · omega
        · rename_i h4
          split at h
          · rename_i h5
            have hl : labE l acts (bL b) = 0 := by omega
            have hi : labE l acts (bInto b) = 0 := by omega
            refine ⟨by omega, by omega, fun k hk => ?_, by omega, ⟨right_of hl, (labErr_zero (labE_check hl).2).1⟩, ⟨right_of hi, (labErr_zero (labE_check hi).2).1⟩, ⟨by omega, List.all_eq_true.1 h5⟩⟩
            have : ¬ (k < 0 ∨ n ≤ k) := fun e => h1 (.inr (.inr (.inl ⟨k, hk, e⟩)))
            omega
          · omega
theorem bndErr_of {l : List Txt} {acts : List (Txt × Txt)} {n : Int} {b : Bnd} (hc : checkC l acts = 0) (h : RightB l n b) : bndErr l acts n b = 0 := by
  have hl : labE l acts (bL b) = 0 := labE_of hc (labErr_of h.lab.2 h.lab.1)
  have hi : labE l acts (bInto b) = 0 := labE_of hc (labErr_of h.into.2 h.into.1)
  unfold bndErr
  rw [if_neg, if_neg (by omega), if_neg (by omega), if_neg (by have := h.for_.1; omega), if_pos (List.all_eq_true.2 h.for_.2)]
  rintro (e | e | ⟨k, hk, e⟩ | e)
  · have := h.lo; omega
  · have := h.hi; omega
  · have := h.from_ k hk; omega
  · have := h.few; omega
theorem solveE_zero {l : List Txt} {acts : List (Txt × Txt)} {n : Int} {bs : List Bnd} (h : solveE l acts n bs = 0) : checkC l acts = 0 ∧ 0 ≤ n ∧ n ≤ 400 ∧ bs.length ≤ 400 ∧ ∀ b ∈ bs, RightB l n b := by
  unfold solveE at h
  split at h
  · omega
  · split at h
    · omega
    · exact ⟨by omega, by omega, by omega, by omega, fun b hb => rightB_of (bndsErr_zero.1 h b hb)⟩
theorem solveE_of {l : List Txt} {acts : List (Txt × Txt)} {n : Int} {bs : List Bnd} (hc : checkC l acts = 0) (h0 : 0 ≤ n) (h1 : n ≤ 400) (h2 : bs.length ≤ 400) (h : ∀ b ∈ bs, RightB l n b) : solveE l acts n bs = 0 := by
  unfold solveE
  rw [if_neg (by omega), if_neg (by omega)]
  exact bndsErr_zero.2 fun b hb => bndErr_of hc (h b hb)

/-- Right labels, so many. -/
structure RightM (l : List Txt) (n : Nat) (m : List Lab) : Prop where
  len : m.length = n
  right : ∀ x ∈ m, RightL l x
theorem RightM.at {l : List Txt} {n : Nat} {m : List Lab} (h : RightM l n m) (k : Int) : RightL l (atL m k) := by
  unfold atL
  cases e : m[k.toNat]? with
  | none => intro p hp; cases hp
  | some x => exact h.right x (List.mem_of_getElem? e)
/-- No label of these is less than its like among those. -/
def LeM (q : Txt → Txt → Bool) (m m' : List Lab) : Prop := ∀ k : Nat, flowsB q ((m[k]?).getD []) ((m'[k]?).getD []) = true
section
variable {l : List Txt} {acts : List (Txt × Txt)}
theorem RightL.join {a b : Lab} (ha : RightL l a) (hb : RightL l b) (q : Txt → Txt → Bool) : RightL l (joinL q a b) := (ha.append hb).norm q
theorem RightL.less {x : Lab} (hx : RightL l x) (q : Txt → Txt → Bool) (by_ : List Txt) : RightL l (lessL q x by_) := (hx.filter _).norm q
theorem RightM.joins {n : Nat} {m : List Lab} (h : RightM l n m) (q : Txt → Txt → Bool) : ∀ (ks : List Int) (s : Lab), RightL l s → RightL l (joinsL q m s ks)
  | [], _, hs => hs
  | k :: ks, s, hs => h.joins q ks _ (hs.join (h.at k) q)
theorem RightM.into {n : Nat} {m : List Lab} (h : RightM l n m) (q : Txt → Txt → Bool) {b : Bnd} (hb : RightL l (bL b)) : RightL l (intoL q m b) := (h.joins q _ _ hb).less q _
theorem joins_mono {n : Nat} {m m' : List Lab} (h : RightM l n m) (h' : RightM l n m') (hle : LeM (mayB l acts) m m') : ∀ (ks : List Int) (s s' : Lab), RightL l s → RightL l s' → flowsB (mayB l acts) s s' = true → flowsB (mayB l acts) (joinsL (mayB l acts) m s ks) (joinsL (mayB l acts) m' s' ks) = true
  | [], _, _, _, _, hf => hf
  | k :: ks, s, s', hs, hs', hf => joins_mono h h' hle ks _ _ (hs.join (h.at k) _) (hs'.join (h'.at k) _) (join_mono hs (h.at k) hs' (h'.at k) hf (hle k.toNat))
theorem into_mono {n : Nat} {m m' : List Lab} (h : RightM l n m) (h' : RightM l n m') (hle : LeM (mayB l acts) m m') {b : Bnd} (hb : RightL l (bL b)) : flowsB (mayB l acts) (intoL (mayB l acts) m b) (intoL (mayB l acts) m' b) = true :=
  less_mono (h.joins _ _ _ hb) (h'.joins _ _ _ hb) _ (joins_mono h h' hle _ _ _ hb hb (flows_self hb))
/-- A bound into a label that is looked for holds. -/
def holdsB (q : Txt → Txt → Bool) (m : List Lab) (b : Bnd) : Bool := decide (bTo b < 0) || flowsB q (intoL q m b) (atL m (bTo b))
/-- Labels that hold the bounds into labels that are looked for. -/
def HoldsM (q : Txt → Txt → Bool) (bs : List Bnd) (m : List Lab) : Prop := ∀ b ∈ bs, holdsB q m b = true
/-- The least of them. -/
structure LeastM (l : List Txt) (acts : List (Txt × Txt)) (n : Nat) (bs : List Bnd) (m : List Lab) : Prop where
  right : RightM l n m
  few : ∀ x ∈ m, x.length ≤ 192
  holds : HoldsM (mayB l acts) bs m
  least : ∀ m', RightM l n m' → HoldsM (mayB l acts) bs m' → LeM (mayB l acts) m m'

/-- All plain policies of some chiefs. -/
def cands (l : List Txt) : Lab := l.flatMap fun o => (subs (plainR o l)).map fun r => (o, r)
theorem cands_le {l : List Txt} (hl : l.length ≤ 6) : (cands l).length ≤ 192 := by
  have h3 : ∀ k : List Txt, (∀ o ∈ k, o ∈ l) → (k.flatMap fun o => (subs (plainR o l)).map fun r => (o, r)).length ≤ k.length * 32 := by
    intro k
    induction k with
    | nil => intro _; simp
    | cons o k ih =>
      intro hk
      have h4 := plainR_few hl (hk o (by simp))
      have h5 : 2 ^ (plainR o l).length ≤ 2 ^ 5 := Nat.pow_le_pow_right (by omega) h4
      have h6 := ih fun x hx => hk x (List.mem_cons_of_mem _ hx)
      rw [List.flatMap_cons, List.length_append, List.length_map, subs_length, List.length_cons, Nat.add_mul]
      omega
  have := h3 l fun _ h => h
  unfold cands
  omega
theorem mem_cands {p : Pol} (h : has l p.1 = true) (h2 : ∀ s ∈ p.2, has l s = true) : plainP p ∈ cands l := by
  refine List.mem_flatMap.2 ⟨p.1, has_iff.1 h, List.mem_map.2 ⟨plainR p.1 p.2, mem_subs ?_, rfl⟩⟩
  refine cmpT_tot.sublist (plainR_rising _ _) (plainR_rising _ _) fun r hr => ?_
  obtain ⟨r1, r2⟩ := mem_plainR.1 hr
  exact mem_plainR.2 ⟨has_iff.1 (h2 r r1), r2⟩
/-- How many of them a label covers. -/
def downN (q : Txt → Txt → Bool) (l : List Txt) (x : Lab) : Nat := (cands l).countP fun p => anyBy x fun y => coversB q y p
theorem countP_lt {α : Type} {f g : α → Bool} : ∀ {l : List α}, (∀ x ∈ l, f x = true → g x = true) → (∃ x ∈ l, f x = false ∧ g x = true) → l.countP f < l.countP g
  | [], _, h => by obtain ⟨x, hx, _⟩ := h; cases hx
  | y :: l, hm, h => by
    have hle : l.countP f ≤ l.countP g := List.countP_mono_left fun x hx => hm x (List.mem_cons_of_mem _ hx)
    rw [List.countP_cons, List.countP_cons]
    obtain ⟨x, hx, h1, h2⟩ := h
    rcases List.mem_cons.1 hx with rfl | hx
    · rw [h1, h2]; simp; omega
    · have ih := countP_lt (fun x hx => hm x (List.mem_cons_of_mem _ hx)) ⟨x, hx, h1, h2⟩
      have := hm y (by simp)
      cases e : f y with
      | false => cases g y <;> simp <;> omega
      | true => rw [this e]; simp; omega
theorem down_mono {x y : Lab} (h : flowsB (mayB l acts) x y = true) : ∀ p ∈ cands l, (anyBy x fun z => coversB (mayB l acts) z p) = true → (anyBy y fun z => coversB (mayB l acts) z p) = true := fun p _ hp => by
  obtain ⟨z, hz, h1⟩ := any_iff.1 hp
  obtain ⟨u, hu, h2⟩ := flows_iff.1 h z hz
  exact any_iff.2 ⟨u, hu, covers_trans may_trans' h2 h1⟩
theorem down_lt {x s : Lab} (hx : RightL l x) (hs : RightL l s) (h : flowsB (mayB l acts) s x = false) : downN (mayB l acts) l x < downN (mayB l acts) l (joinL (mayB l acts) x s) := by
  refine countP_lt (down_mono (flows_join_left hx hs)) ?_
  have hn : ¬ ∀ p ∈ s, ∃ y ∈ x, coversB (mayB l acts) y p = true := fun e => by
    have := flows_iff.2 e
    rw [h] at this; cases this
  have : ∃ p ∈ s, ∀ y ∈ x, coversB (mayB l acts) y p = false := by
    apply Classical.byContradiction
    intro hno
    refine hn fun p hp => ?_
    apply Classical.byContradiction
    intro h2
    refine hno ⟨p, hp, fun y hy => ?_⟩
    cases e : coversB (mayB l acts) y p with
    | false => rfl
    | true => exact absurd ⟨y, hy, e⟩ h2
  obtain ⟨p, hp, hno⟩ := this
  obtain ⟨_, h1, h2⟩ := hs p hp
  refine ⟨plainP p, mem_cands h1 h2, ?_, ?_⟩
  · cases e : anyBy x fun y => coversB (mayB l acts) y (plainP p) with
    | false => rfl
    | true =>
      obtain ⟨y, hy, e2⟩ := any_iff.1 e
      rw [covers_plain_right, hno y hy] at e2
      cases e2
  · obtain ⟨y, hy, e⟩ := flows_iff.1 (flows_join_right hx hs) p hp
    exact any_iff.2 ⟨y, hy, by rw [covers_plain_right]; exact e⟩
def sumN (q : Txt → Txt → Bool) (l : List Txt) (m : List Lab) : Nat := (m.map (downN q l)).sum
theorem sum_le {α : Type} {f : α → Nat} {c : Nat} : ∀ {m : List α}, (∀ x ∈ m, f x ≤ c) → (m.map f).sum ≤ m.length * c
  | [], _ => by simp
  | x :: m, h => by
    have := sum_le (m := m) fun y hy => h y (List.mem_cons_of_mem _ hy)
    have := h x (by simp)
    simp [Nat.add_mul]; omega
theorem sumN_le (hl : l.length ≤ 6) (q : Txt → Txt → Bool) (m : List Lab) : sumN q l m ≤ m.length * 192 :=
  sum_le fun x _ => Nat.le_trans List.countP_le_length (cands_le hl)
theorem sum_set_lt {α : Type} {f : α → Nat} : ∀ {m : List α} {k : Nat} {x y : α}, m[k]? = some x → f x < f y → (m.map f).sum < ((m.set k y).map f).sum
  | [], k, x, y, h, _ => by cases h
  | z :: m, 0, x, y, h, hlt => by
    simp at h; subst h
    simp; omega
  | z :: m, k + 1, x, y, h, hlt => by
    have := sum_set_lt (m := m) (k := k) (by simpa using h) hlt
    rw [List.set_cons_succ, List.map_cons, List.map_cons, List.sum_cons, List.sum_cons]
    omega
/-- One bound looked at. -/
def stepM (q : Txt → Txt → Bool) (m : List Lab) (b : Bnd) : List Lab := if holdsB q m b then m else m.set (bTo b).toNat (joinL q (atL m (bTo b)) (intoL q m b))
/-- What stands while the bounds are looked at. -/
structure Sound (l : List Txt) (acts : List (Txt × Txt)) (n : Nat) (bs : List Bnd) (m : List Lab) : Prop where
  right : RightM l n m
  few : ∀ x ∈ m, x.length ≤ 192
  least : ∀ m', RightM l n m' → HoldsM (mayB l acts) bs m' → LeM (mayB l acts) m m'
theorem Sound.start (l : List Txt) (acts : List (Txt × Txt)) (n : Nat) (bs : List Bnd) : Sound l acts n bs (List.replicate n []) := by
  refine ⟨⟨by simp, fun x hx => ?_⟩, fun x hx => ?_, fun m' _ _ k => ?_⟩
  · rw [List.eq_of_mem_replicate hx]; intro p hp; cases hp
  · rw [List.eq_of_mem_replicate hx]; simp
  · have : ((List.replicate n ([] : Lab))[k]?).getD [] = [] := by
      rw [List.getElem?_replicate]
      split <;> rfl
    rw [this]
    exact flows_iff.2 fun x hx => by cases hx
theorem atL_at {m : List Lab} {k : Int} (h0 : 0 ≤ k) (h1 : k < m.length) : m[k.toNat]? = some (atL m k) := by
  unfold atL
  rw [List.getElem?_eq_getElem (by omega)]; rfl
theorem Sound.raise (hl : l.length ≤ 6) {n : Nat} {bs : List Bnd} {m : List Lab} (h : Sound l acts n bs m) {b : Bnd} (hb : b ∈ bs) (hr : RightB l n b) (h0 : ¬ bTo b < 0) (hf : flowsB (mayB l acts) (intoL (mayB l acts) m b) (atL m (bTo b)) = false) :
    Sound l acts n bs (m.set (bTo b).toNat (joinL (mayB l acts) (atL m (bTo b)) (intoL (mayB l acts) m b))) ∧
      sumN (mayB l acts) l m < sumN (mayB l acts) l (m.set (bTo b).toNat (joinL (mayB l acts) (atL m (bTo b)) (intoL (mayB l acts) m b))) := by
  have ri := h.right.into (mayB l acts) hr.lab.1
  have ra := h.right.at (bTo b)
  have hlen := h.right.len
  have hhi := hr.hi
  have hat := atL_at (m := m) (k := bTo b) (by omega) (by omega)
  refine ⟨⟨⟨by simp [hlen], fun x hx => ?_⟩, fun x hx => ?_, fun m' hm' hh k => ?_⟩, sum_set_lt hat (down_lt ra ri hf)⟩
  · rcases List.mem_or_eq_of_mem_set hx with hx | rfl
    · exact h.right.right x hx
    · exact ra.join ri _
  · rcases List.mem_or_eq_of_mem_set hx with hx | rfl
    · exact h.few x hx
    · exact norm_few hl (ra.append ri) _
  · by_cases e : (bTo b).toNat = k
    · subst e
      rw [List.getElem?_set_self (by omega)]
      have hle := h.least m' hm' hh
      have h1 := hle (bTo b).toNat
      have hb' := hh b hb
      unfold holdsB at hb'
      rw [Bool.or_eq_true] at hb'
      rcases hb' with hb' | hb'
      · exact absurd (by simpa using hb') h0
      · exact join_flows h1 (flows_trans may_trans' (into_mono h.right hm' hle hr.lab.1) hb')
    · rw [List.getElem?_set_ne e]
      exact h.least m' hm' hh k
theorem Sound.done {n : Nat} {bs : List Bnd} {m : List Lab} (h : Sound l acts n bs m) (hh : HoldsM (mayB l acts) bs m) : LeastM l acts n bs m := ⟨h.right, h.few, hh, h.least⟩
end
/-- All bounds looked at, one after the other. -/
def roundM (q : Txt → Txt → Bool) (bs : List Bnd) (m : List Lab) : List Lab := bs.foldl (stepM q) m
def itersM (q : Txt → Txt → Bool) (bs : List Bnd) : Nat → List Lab → List Lab
  | 0, m => m
  | k + 1, m => roundM q bs (itersM q bs k m)
theorem stepM_holds {q : Txt → Txt → Bool} {m : List Lab} {b : Bnd} (h : holdsB q m b = true) : stepM q m b = m := by
  unfold stepM; rw [if_pos h]
theorem stepM_raise {q : Txt → Txt → Bool} {m : List Lab} {b : Bnd} (h0 : ¬ bTo b < 0) (hf : flowsB q (intoL q m b) (atL m (bTo b)) = false) : stepM q m b = m.set (bTo b).toNat (joinL q (atL m (bTo b)) (intoL q m b)) := by
  unfold stepM
  rw [if_neg]
  unfold holdsB
  rw [hf]
  simpa using h0
theorem round_take {q : Txt → Txt → Bool} {bs : List Bnd} {m : List Lab} {i : Nat} (hi : i < bs.length) : roundM q (bs.take (i + 1)) m = stepM q (roundM q (bs.take i) m) bs[i] := by
  unfold roundM
  rw [List.take_succ_eq_append_getElem hi, List.foldl_append]
  rfl
theorem round_holds {q : Txt → Txt → Bool} {m : List Lab} : ∀ {bs : List Bnd}, HoldsM q bs m → roundM q bs m = m
  | [], _ => rfl
  | b :: bs, h => by
    show roundM q bs (stepM q m b) = m
    rw [stepM_holds (h b (by simp))]
    exact round_holds fun x hx => h x (List.mem_cons_of_mem _ hx)
/-- What the solver comes to. -/
structure SolvedM (l : List Txt) (acts : List (Txt × Txt)) (n : Nat) (bs : List Bnd) (m : List Lab) : Prop where
  least : LeastM l acts n bs m
  iter : ∃ k, m = itersM (mayB l acts) bs k (List.replicate n [])
  fix : roundM (mayB l acts) bs m = m
/-- A bound that labels don't hold. -/
def broke (q : Txt → Txt → Bool) (m : List Lab) (b : Bnd) : Bool := !flowsB q (intoL q m b) (if bTo b < 0 then bInto b else atL m (bTo b))
def brokeAt (q : Txt → Txt → Bool) (m : List Lab) (bs : List Bnd) (i : Nat) : Bool := (bs[i]?).elim false (broke q m)
def brokenTo (q : Txt → Txt → Bool) (m : List Lab) (bs : List Bnd) (k : Nat) : List Int := ((List.range k).filter (brokeAt q m bs)).map Int.ofNat
theorem brokenTo_hit {q : Txt → Txt → Bool} {m : List Lab} {bs : List Bnd} {k : Nat} (hk : k < bs.length) (h : broke q m bs[k] = true) : brokenTo q m bs (k + 1) = brokenTo q m bs k ++ [(k : Int)] := by
  unfold brokenTo
  rw [List.range_succ, List.filter_append, List.map_append]
  have : brokeAt q m bs k = true := by unfold brokeAt; rw [List.getElem?_eq_getElem hk]; exact h
  simp [this]
theorem brokenTo_miss {q : Txt → Txt → Bool} {m : List Lab} {bs : List Bnd} {k : Nat} (hk : k < bs.length) (h : broke q m bs[k] = false) : brokenTo q m bs (k + 1) = brokenTo q m bs k := by
  unfold brokenTo
  rw [List.range_succ, List.filter_append, List.map_append]
  have : brokeAt q m bs k = false := by unfold brokeAt; rw [List.getElem?_eq_getElem hk]; exact h
  simp [this]
theorem brokenTo_le (q : Txt → Txt → Bool) (m : List Lab) (bs : List Bnd) (k : Nat) : (brokenTo q m bs k).length ≤ k := by
  unfold brokenTo
  rw [List.length_map]
  exact Nat.le_trans (List.length_filter_le _ _) (by simp)
theorem mem_broken {q : Txt → Txt → Bool} {m : List Lab} {bs : List Bnd} {i : Int} (h : i ∈ brokenTo q m bs bs.length) : ∃ k : Nat, i = k ∧ ∃ hk : k < bs.length, broke q m bs[k] = true := by
  unfold brokenTo at h
  obtain ⟨k, hk, rfl⟩ := List.mem_map.1 h
  obtain ⟨h1, h2⟩ := List.mem_filter.1 hk
  have hk' := List.mem_range.1 h1
  refine ⟨k, rfl, hk', ?_⟩
  unfold brokeAt at h2
  rw [List.getElem?_eq_getElem hk'] at h2
  exact h2
theorem broken_mem {q : Txt → Txt → Bool} {m : List Lab} {bs : List Bnd} {k : Nat} (hk : k < bs.length) (h : broke q m bs[k] = true) : (k : Int) ∈ brokenTo q m bs bs.length := by
  unfold brokenTo
  refine List.mem_map.2 ⟨k, List.mem_filter.2 ⟨List.mem_range.2 hk, ?_⟩, rfl⟩
  unfold brokeAt
  rw [List.getElem?_eq_getElem hk]
  exact h
/-- Is it into a label that is looked for? -/
def toAt (bs : List Bnd) (i : Int) : Bool := (bs[i.toNat]?).elim false fun b => decide (0 ≤ bTo b)
theorem broken_holds {q : Txt → Txt → Bool} {m : List Lab} {bs : List Bnd} : anyBy (brokenTo q m bs bs.length) (toAt bs) = false ↔ HoldsM q bs m := by
  constructor
  · intro h b hb
    obtain ⟨k, hk, rfl⟩ := List.getElem_of_mem hb
    unfold holdsB
    by_cases h0 : bTo bs[k] < 0
    · simp [h0]
    · cases hf : flowsB q (intoL q m bs[k]) (atL m (bTo bs[k])) with
      | true => simp
      | false =>
        have hbr : broke q m bs[k] = true := by unfold broke; rw [if_neg h0, hf]; rfl
        have : anyBy (brokenTo q m bs bs.length) (toAt bs) = true := any_iff.2 ⟨_, broken_mem hk hbr, by unfold toAt; simp [hk]; omega⟩
        rw [h] at this; cases this
  · intro h
    cases e : anyBy (brokenTo q m bs bs.length) (toAt bs) with
    | false => rfl
    | true =>
      obtain ⟨i, hi, ht⟩ := any_iff.1 e
      obtain ⟨k, rfl, hk, hbr⟩ := mem_broken hi
      have ht' : 0 ≤ bTo bs[k] := by unfold toAt at ht; simpa [hk] using ht
      have := h bs[k] (List.getElem_mem hk)
      unfold holdsB at this
      unfold broke at hbr
      rw [if_neg (by omega)] at hbr
      simp at this hbr
      rcases this with h1 | h1
      · omega
      · rw [hbr] at h1; cases h1
/-- The first error of labels. -/
def labsErr (l : List Txt) (acts : List (Txt × Txt)) (m : List Lab) : Int := (m.find? fun x => labE l acts x != 0).elim 0 (labE l acts)
theorem labsErr_zero {l : List Txt} {acts : List (Txt × Txt)} {m : List Lab} : labsErr l acts m = 0 ↔ ∀ x ∈ m, labE l acts x = 0 := by
  unfold labsErr
  constructor
  · intro h b hb
    cases hf : m.find? fun x => labE l acts x != 0 with
    | none => simpa using List.find?_eq_none.1 hf b hb
    | some c =>
      rw [hf] at h
      have := List.find?_some hf
      have h' : labE l acts c = 0 := h
      rw [h'] at this
      simp at this
  · intro h
    have : m.find? (fun x => labE l acts x != 0) = none := List.find?_eq_none.2 fun b hb => by simp [h b hb]
    rw [this]; rfl
theorem labsErr_at {l : List Txt} {acts : List (Txt × Txt)} {m : List Lab} {k : Nat} (hk : k < m.length) (h : labE l acts m[k] ≠ 0) (hne : ∀ j (hj : j < m.length), j < k → labE l acts m[j] = 0) : labsErr l acts m = labE l acts m[k] := by
  unfold labsErr
  have : m.find? (fun x => labE l acts x != 0) = some m[k] := by
    rw [List.find?_eq_some_iff_getElem]
    refine ⟨by simpa using h, k, hk, rfl, fun j hj => ?_⟩
    have := hne j (by omega) hj
    simp [this]
  rw [this]; rfl
def brokenE (l : List Txt) (acts : List (Txt × Txt)) (m : List Lab) (bs : List Bnd) : Int := if solveE l acts m.length bs ≠ 0 then solveE l acts m.length bs else labsErr l acts m
def brokenR (l : List Txt) (acts : List (Txt × Txt)) (m : List Lab) (bs : List Bnd) : List Int := if brokenE l acts m bs = 0 then brokenTo (mayB l acts) m bs bs.length else []
theorem rightM_of {l : List Txt} {acts : List (Txt × Txt)} {m : List Lab} (h : labsErr l acts m = 0) : RightM l m.length m := ⟨rfl, fun x hx => right_of (labsErr_zero.1 h x hx)⟩
/-- The law on what holds. -/
theorem holds_law {l : List Txt} {acts : List (Txt × Txt)} {have_ m : List Lab} {bs : List Bnd} (he : solveE l acts have_.length bs = 0) (hm : LeastM l acts have_.length bs m) :
    brokenE l acts m bs = 0 ∧ anyBy (brokenR l acts m bs) (toAt bs) = false ∧
      (brokenE l acts have_ bs = 0 → anyBy (brokenR l acts have_ bs) (toAt bs) = false → ∀ (k : Nat) (hk : k < have_.length) (hk' : k < m.length), flowsE l acts m[k] have_[k] = 0 ∧ flowsR l acts m[k] have_[k] = true) := by
  obtain ⟨hc, _, _, _, hb⟩ := solveE_zero he
  have hlm : ∀ x ∈ m, labE l acts x = 0 := fun x hx => labE_of hc (labErr_of (by have := hm.few x hx; omega) (hm.right.right x hx))
  have h1 : brokenE l acts m bs = 0 := by
    unfold brokenE
    rw [hm.right.len, if_neg (by omega)]
    exact labsErr_zero.2 hlm
  refine ⟨h1, ?_, fun h2 h3 k hk hk' => ?_⟩
  · unfold brokenR
    rw [if_pos h1]
    exact broken_holds.2 hm.holds
  · have h4 : labsErr l acts have_ = 0 := by
      unfold brokenE at h2
      rw [if_neg (by omega)] at h2
      exact h2
    unfold brokenR at h3
    rw [if_pos h2] at h3
    have hle := hm.least have_ (rightM_of h4) (broken_holds.1 h3) k
    rw [List.getElem?_eq_getElem hk, List.getElem?_eq_getElem hk'] at hle
    have e1 := hlm m[k] (List.getElem_mem hk')
    have e2 := labsErr_zero.1 h4 have_[k] (List.getElem_mem hk)
    exact ⟨flowsE_of e1 e2, by rw [flowsR_of e1 e2]; exact hle⟩
end Go.Proofs.YtcgihpfanfbonaaGreatDoor
namespace Go.Proofs.YtcgihpfanfbonaaGreatDoor
set_option linter.unusedVariables false
set_option linter.unusedSimpArgs false

def allL (m : List Lab) (s : Lab) (ks : List Int) : Lab := s ++ ks.flatMap (atL m)
theorem allL_nil (m : List Lab) (s : Lab) : allL m s [] = s := by unfold allL; simp
theorem allL_cons (m : List Lab) (s : Lab) (k : Int) (ks : List Int) : allL m s (k :: ks) = allL m (s ++ atL m k) ks := by unfold allL; simp [List.append_assoc]
theorem allL_take {m : List Lab} {s : Lab} {ks : List Int} {i : Nat} (hi : i < ks.length) : allL m s (ks.take (i + 1)) = allL m s (ks.take i) ++ atL m ks[i] := by
  unfold allL; rw [List.take_succ_eq_append_getElem hi, List.flatMap_append]; simp [List.append_assoc]
section
variable {l : List Txt} {acts : List (Txt × Txt)}
theorem RightM.all {n : Nat} {m : List Lab} (h : RightM l n m) {s : Lab} (hs : RightL l s) (ks : List Int) : RightL l (allL m s ks) := fun p hp => by
  unfold allL at hp
  rcases List.mem_append.1 hp with hp | hp
  · exact hs p hp
  · obtain ⟨k, _, hp⟩ := List.mem_flatMap.1 hp
    exact h.at k p hp
/-- Each of one list is covered by one of the other with the same owner. -/
def Under (q : Txt → Txt → Bool) (x y : Lab) : Prop := ∀ p ∈ x, ∃ z ∈ y, z.1 = p.1 ∧ coversB q z p = true
theorem Under.mono {q : Txt → Txt → Bool} {x y z : Lab} (h : Under q x y) (hs : ∀ p ∈ y, p ∈ z) : Under q x z := fun p hp => by
  obtain ⟨r, hr, e⟩ := h p hp
  exact ⟨r, hs r hr, e⟩
theorem Under.trans {x y z : Lab} (h : Under (mayB l acts) x y) (k : Under (mayB l acts) y z) : Under (mayB l acts) x z := fun p hp => by
  obtain ⟨r, hr, e1, e2⟩ := h p hp
  obtain ⟨t, ht, e3, e4⟩ := k r hr
  exact ⟨t, ht, e3.trans e1, covers_trans may_trans' e4 e2⟩
theorem under_self {x : Lab} (h : RightL l x) : Under (mayB l acts) x x := fun p hp => ⟨p, hp, rfl, covers_self h p hp⟩
theorem under_norm {x : Lab} (h : RightL l x) : Under (mayB l acts) (normL (mayB l acts) x) x := fun p hp => by
  obtain ⟨y, hy, rfl⟩ := mem_norm hp
  exact ⟨y, hy, rfl, by rw [covers_plain_right]; exact covers_self h y hy⟩
theorem joins_two {n : Nat} {m : List Lab} (h : RightM l n m) : ∀ (ks : List Int) (s a : Lab), RightL l s → RightL l a → flowsB (mayB l acts) a s = true → Under (mayB l acts) s a →
    flowsB (mayB l acts) (allL m a ks) (joinsL (mayB l acts) m s ks) = true ∧ Under (mayB l acts) (joinsL (mayB l acts) m s ks) (allL m a ks)
  | [], s, a, _, _, h1, h2 => by rw [allL_nil]; exact ⟨h1, h2⟩
  | k :: ks, s, a, hs, ha, h1, h2 => by
    rw [allL_cons]
    have hk := h.at k
    refine joins_two h ks (joinL (mayB l acts) s (atL m k)) (a ++ atL m k) (hs.join hk _) (ha.append hk) ?_ ?_
    · exact flows_append (flows_trans may_trans' h1 (flows_join_left hs hk)) (flows_join_right hs hk)
    · refine (under_norm (hs.append hk)).trans fun p hp => ?_
      rcases List.mem_append.1 hp with hp | hp
      · obtain ⟨z, hz, e⟩ := h2 p hp
        exact ⟨z, List.mem_append_left _ hz, e⟩
      · exact ⟨p, List.mem_append_right _ hp, rfl, covers_self hk p hp⟩
/-- By the document a bound brings the same. -/
theorem brings_same {n : Nat} {m : List Lab} (h : RightM l n m) {b : Bnd} (hb : RightL l (bL b)) (t : Lab) :
    flowsB (mayB l acts) (lessL (mayB l acts) (allL m (bL b) (bFrom b)) (bFor b)) t = flowsB (mayB l acts) (intoL (mayB l acts) m b) t := by
  obtain ⟨h1, h2⟩ := joins_two (acts := acts) h (bFrom b) (bL b) (bL b) hb hb (flows_self hb) (under_self hb)
  have hA := h.all hb (bFrom b)
  have hJ : RightL l (joinsL (mayB l acts) m (bL b) (bFrom b)) := h.joins _ _ _ hb
  unfold intoL
  generalize allL m (bL b) (bFrom b) = A at *
  generalize joinsL (mayB l acts) m (bL b) (bFrom b) = J at *
  have a1 : flowsB (mayB l acts) (lessL (mayB l acts) A (bFor b)) (lessL (mayB l acts) J (bFor b)) = true := by
    unfold lessL
    refine flows_of_norm fun x hx => ?_
    obtain ⟨hxA, hxk⟩ := List.mem_filter.1 hx
    obtain ⟨p, hp, hc⟩ := flows_iff.1 h1 x hxA
    have hpk : (!leftOut (mayB l acts) (bFor b) p) = true := by
      rw [Bool.not_eq_true', Bool.eq_false_iff]
      intro hl
      obtain ⟨s, hs, hq⟩ := any_iff.1 hl
      have : leftOut (mayB l acts) (bFor b) x = true := any_iff.2 ⟨s, hs, may_trans hq (covers_iff.1 hc).1⟩
      rw [this] at hxk
      cases hxk
    obtain ⟨z, hz, hc2⟩ := flows_iff.1 (flows_norm (acts := acts) (hJ.filter fun p => !leftOut (mayB l acts) (bFor b) p)) p (List.mem_filter.2 ⟨hp, hpk⟩)
    exact ⟨z, hz, covers_trans may_trans' hc2 hc⟩
  have a2 : flowsB (mayB l acts) (lessL (mayB l acts) J (bFor b)) (lessL (mayB l acts) A (bFor b)) = true := by
    unfold lessL
    refine flows_of_norm fun x hx => ?_
    obtain ⟨hxJ, hxk⟩ := List.mem_filter.1 hx
    obtain ⟨p, hp, e, hc⟩ := h2 x hxJ
    have hpk : (!leftOut (mayB l acts) (bFor b) p) = true := by
      unfold leftOut at hxk ⊢
      rw [e]
      exact hxk
    obtain ⟨z, hz, hc2⟩ := flows_iff.1 (flows_norm (acts := acts) (hA.filter fun p => !leftOut (mayB l acts) (bFor b) p)) p (List.mem_filter.2 ⟨hp, hpk⟩)
    exact ⟨z, hz, covers_trans may_trans' hc2 hc⟩
  rw [Bool.eq_iff_iff]
  exact ⟨fun h => flows_trans may_trans' a2 h, fun h => flows_trans may_trans' a1 h⟩
end
end Go.Proofs.YtcgihpfanfbonaaGreatDoor
namespace Go.Proofs.YtcgihpfanfbonaaGreatDoor
open Go.RowKit Go.Maps
set_option linter.unusedVariables false
set_option linter.unusedSimpArgs false

theorem nil_readsS {α : Type} (E : Enc α) (k : Nat) (w : World) : SliceOf E k w [] (.slice none 0 0) := ⟨none, 0, rfl, by simp, by unfold maxLen; omega, .inl rfl⟩
theorem Nums.cells {w : World} {l : List Int} {v : Value} (h : Nums w l v) :
    ∃ b o c p, v = .slice p l.length c ∧ l.length ≤ c ∧ c ≤ 9223372036854775807 ∧ (0 < l.length → p = some ⟨b, o, none⟩) ∧ ∀ (i : Nat) (h : i < l.length), w.cell? ⟨b, o + i, none⟩ = some (.int .i64 l[i]) := by
  obtain ⟨p, c, e, h1, h2, h3⟩ := h
  unfold maxLen at h2
  rcases h3 with rfl | ⟨b, o, hp, h3⟩
  · exact ⟨0, 0, c, p, e, h1, by omega, fun h => absurd h (by simp), fun i h => absurd h (by simp)⟩
  · refine ⟨b, o, c, p, e, h1, by omega, fun _ => hp, fun i hi => ?_⟩
    obtain ⟨vs, g1, g2, g3⟩ := h3 i hi
    have := g3 0 (.int .i64 l[i]) (by rw [g1]; rfl)
    simpa using this
/-- `[]api.Label`. -/
abbrev Labs (w : World) (m : List Lab) (v : Value) : Prop := SliceOf (Sl pol 2) 1 w m v
theorem labs_stays : Stays (Sl pol 2) := Sl.stays pol_stays 2
theorem Labs.stays {w w' : World} (hk : Keeps w w') {l : List Lab} {v : Value} (h : Labs w l v) : Labs w' l v := SliceOf.stays labs_stays hk h
theorem Labs.cells {w : World} {l : List Lab} {v : Value} (h : Labs w l v) :
    ∃ b o c p, v = .slice p l.length c ∧ l.length ≤ c ∧ c ≤ 9223372036854775807 ∧ (0 < l.length → p = some ⟨b, o, none⟩) ∧ ∀ (i : Nat) (h : i < l.length), ∃ u, w.cell? ⟨b, o + i, none⟩ = some u ∧ Lbl w l[i] u := by
  obtain ⟨p, c, e, h1, h2, h3⟩ := h
  unfold maxLen at h2
  rcases h3 with rfl | ⟨b, o, hp, h3⟩
  · exact ⟨0, 0, c, p, e, h1, by omega, fun h => absurd h (by simp), fun i h => absurd h (by simp)⟩
  · refine ⟨b, o, c, p, e, h1, by omega, fun _ => hp, fun i hi => ?_⟩
    obtain ⟨vs, ⟨u, e1, e2⟩, g2, g3⟩ := h3 i hi
    subst e1
    exact ⟨u, by simpa using g3 0 _ rfl, e2⟩
def bnd : Enc Bnd := Both (Sl num 1) (Both (Sl pol 2) (Both num (Both (Sl pol 2) (Both num (Sl txt 1)))))
theorem bnd_stays : Stays bnd := Both.stays (Sl.stays (One.stays _) 1) (Both.stays labs_stays (Both.stays (One.stays _) (Both.stays labs_stays (Both.stays (One.stays _) (Sl.stays (One.stays _) 1)))))
/-- `[]api.Bound`. -/
abbrev Bnds (w : World) (l : List Bnd) (v : Value) : Prop := SliceOf bnd 6 w l v
theorem Bnds.stays {w w' : World} (hk : Keeps w w') {l : List Bnd} {v : Value} (h : Bnds w l v) : Bnds w' l v := SliceOf.stays bnd_stays hk h
/-- What six cells say of a bound. -/
structure BndIs (w : World) (b : Bnd) (x0 x1 x2 x3 x4 x5 : Value) : Prop where
  from_ : Nums w (bFrom b) x0
  lab : Lbl w (bL b) x1
  to : x2 = .int .i64 (bTo b)
  into : Lbl w (bInto b) x3
  at_ : x4 = .int .i64 b.2.2.2.2.1
  for_ : Strs w (bFor b) x5
theorem BndIs.stays {w w' : World} (hk : Keeps w w') {b : Bnd} {x0 x1 x2 x3 x4 x5 : Value} (h : BndIs w b x0 x1 x2 x3 x4 x5) : BndIs w' b x0 x1 x2 x3 x4 x5 :=
  ⟨h.from_.stays hk, h.lab.stays hk, h.to, h.into.stays hk, h.at_, h.for_.stays hk⟩
theorem bnd_is {w : World} {b : Bnd} {vs : List Value} (h : bnd w b vs) : ∃ x0 x1 x2 x3 x4 x5, vs = [x0, x1, x2, x3, x4, x5] ∧ BndIs w b x0 x1 x2 x3 x4 x5 := by
  obtain ⟨_, _, rfl, ⟨x0, rfl, h0⟩, _, _, rfl, ⟨x1, rfl, h1⟩, u2, _, rfl, e2, _, _, rfl, ⟨x3, rfl, h3⟩, u4, _, rfl, e4, ⟨x5, rfl, h5⟩⟩ := h
  have e2' : u2 = [.int .i64 (bTo b)] := e2
  have e4' : u4 = [.int .i64 b.2.2.2.2.1] := e4
  subst e2' e4'
  exact ⟨x0, x1, _, x3, _, x5, rfl, h0, h1, rfl, h3, rfl, h5⟩
theorem Bnds.cells {w : World} {l : List Bnd} {v : Value} (h : Bnds w l v) :
    ∃ b o c p, v = .slice p l.length c ∧ l.length ≤ c ∧ c ≤ 9223372036854775807 ∧ (0 < l.length → p = some ⟨b, o, none⟩) ∧
      ∀ (i : Nat) (h : i < l.length), ∃ x0 x1 x2 x3 x4 x5, BndIs w l[i] x0 x1 x2 x3 x4 x5 ∧ w.cell? ⟨b, o + i * 6, none⟩ = some x0 ∧ w.cell? ⟨b, o + i * 6 + 1, none⟩ = some x1 ∧ w.cell? ⟨b, o + i * 6 + 2, none⟩ = some x2 ∧
        w.cell? ⟨b, o + i * 6 + 3, none⟩ = some x3 ∧ w.cell? ⟨b, o + i * 6 + 4, none⟩ = some x4 ∧ w.cell? ⟨b, o + i * 6 + 5, none⟩ = some x5 := by
  obtain ⟨p, c, e, h1, h2, h3⟩ := h
  unfold maxLen at h2
  rcases h3 with rfl | ⟨b, o, hp, h3⟩
  · exact ⟨0, 0, c, p, e, h1, by omega, fun h => absurd h (by simp), fun i h => absurd h (by simp)⟩
  · refine ⟨b, o, c, p, e, h1, by omega, fun _ => hp, fun i hi => ?_⟩
    obtain ⟨vs, g1, g2, g3⟩ := h3 i hi
    obtain ⟨x0, x1, x2, x3, x4, x5, rfl, hb⟩ := bnd_is g1
    exact ⟨x0, x1, x2, x3, x4, x5, hb, by simpa using g3 0 _ rfl, by simpa using g3 1 _ rfl, by simpa using g3 2 _ rfl, by simpa using g3 3 _ rfl, by simpa using g3 4 _ rfl, by simpa using g3 5 _ rfl⟩
def okBnd : Bnd → Prop := okBoth (okList okNum) (okBoth okLab (okBoth okNum (okBoth okLab (okBoth okNum (okList okTxt)))))
def szBnd : Bnd → Nat := szBoth (szList szOne) (szBoth (szList szPol) (szBoth szOne (szBoth (szList szPol) (szBoth szOne (szList szTxt)))))
theorem rdNums : Rd Tryz.prog 53 (Sl num 1) (okList okNum) (szList szOne) := Rd.slice Tryz.underlying53 (by decide) (by kernel_rfl) (Rd.num Tryz.underlying3)
theorem rdLabels : Rd Tryz.prog 44 (Sl (Sl pol 2) 1) (okList okLab) (szList (szList szPol)) := Rd.slice Tryz.underlying44 (by decide) (by kernel_rfl) rdLabel
theorem rdBnd : Rd Tryz.prog 93 bnd okBnd szBnd :=
  Rd.struct (tot := 6) Tryz.underlying93 (by kernel_rfl) (Rdf.cons (k := 1) (o' := 1) rfl rfl (by kernel_rfl) rfl rdNums (Rdf.cons (k := 1) (o' := 2) rfl rfl (by kernel_rfl) rfl rdLabel (Rdf.cons (k := 1) (o' := 3) rfl rfl (by kernel_rfl) rfl (Rd.num Tryz.underlying3)
    (Rdf.cons (k := 1) (o' := 4) rfl rfl (by kernel_rfl) rfl rdLabel (Rdf.cons (k := 1) (o' := 5) rfl rfl (by kernel_rfl) rfl (Rd.num Tryz.underlying3) (Rdf.last (k := 1) rfl rfl (by kernel_rfl) rdStrs))))))
theorem rdBnds : Rd Tryz.prog 43 (Sl bnd 6) (okList okBnd) (szList szBnd) := Rd.slice Tryz.underlying43 (by decide) (by kernel_rfl) rdBnd
end Go.Proofs.YtcgihpfanfbonaaGreatDoor
namespace Go.Proofs.YtcgihpfanfbonaaGreatDoor
open Go.RowKit Go.Maps
set_option linter.unusedVariables false
set_option linter.unusedSimpArgs false

/-- A function value that tells `q` of each number of a list, whatever is made in between. -/
def TellsNum (W : World) (l : List Int) (fn : FuncId) (cap : Array Value) (q : Int → Bool) : Prop :=
  ∀ (x : Int), x ∈ l → ∀ (w : World), Below W.heap.size W w → Calls Tryz.prog fn (#[.int .i64 x] ++ cap) w fun e w' => e = .returned (.bool (q x)) ∧ Below w.heap.size w w'

theorem indexInt_calls (l : List Int) (v : Value) (fn : FuncId) (cap : Array Value) (q : Int → Bool) (w : World) (h : Nums w l v) (eg : ∀ args w, (callFunc fn args).run Tryz.prog w = .ok (.enter fn args) w) (hq : TellsNum w l fn cap q) :
    Calls Tryz.prog 125 #[v, .func (.func fn) #[] cap] w fun e w' => e = .returned (.int .i64 (idxBy l q)) ∧ Below w.heap.size w w' := by
  obtain ⟨b, o, c, p, rfl, hlc, hc, hp, hcells⟩ := h.cells
  go_enter Tryz.func125, Tryz.ntmps125
  go_wp2
  go_loopw [5, 8] (fun _ i wr => ∃ k : Nat, k ≤ l.length ∧ i = .int .i64 k ∧ Below w.heap.size w wr ∧ ∀ j (hj : j < l.length), j < k → q l[j] = false) (fun _ i _ => l.length - (intOf i).toNat)
  case atStart => exact ⟨0, Nat.zero_le _, rfl, Below.refl _ _, fun j _ hj => absurd hj (Nat.not_lt_zero _)⟩
  case round =>
    obtain ⟨k, hk, rfl, hb, hne⟩ := hrel
    by_cases hlt : k < l.length
    · have hcell0 := hcells k hlt
      have hcell : wr.cell? ⟨b, o + k, none⟩ = some (.int .i64 l[k]) := (hb.cell (cell_lt hcell0)).trans hcell0
      obtain rfl := hp (by omega)
      have HN := Lib.hid hne
      clear hp hcells hcell0 hne
      have HQ := hq l[k] (List.getElem_mem hlt) wr hb
      clear hq
      cases hx : q l[k] with
      | true =>
        rw [hx] at HQ
        have HX := Lib.hid hx
        clear hx
        go_wp2_with (fail)
        refine HQ.mono ?_
        rintro e w1 ⟨rfl, hb1⟩
        go_wp2
        go_ret
        exact ⟨ret_int (idxBy_hit hlt HX.out HN.out).symm, hb.trans (hb1.mono hb.size)⟩
      | false =>
        rw [hx] at HQ
        have HX := Lib.hid hx
        clear hx
        go_wp2_with (fail)
        refine HQ.mono ?_
        rintro e w1 ⟨rfl, hb1⟩
        go_wp2
        go_roundw
        case rel =>
          refine ⟨k + 1, by omega, by go_num, hb.trans (hb1.mono hb.size), fun j hj hj' => ?_⟩
          by_cases e : j = k
          · subst e; exact HX.out
          · exact HN.out j hj (by omega)
        case measure => simp [intOf]; omega
    · go_wp2
      go_ret
      exact ⟨ret_int (idxBy_miss (fun j hj => hne j hj (by omega))).symm, hb⟩

theorem containsInt_calls (l : List Int) (v : Value) (fn : FuncId) (cap : Array Value) (q : Int → Bool) (w : World) (h : Nums w l v)
    (eg : ∀ args w, (callFunc fn args).run Tryz.prog w = .ok (.enter fn args) w) (hq : TellsNum w l fn cap q) :
    Calls Tryz.prog 84 #[v, .func (.func fn) #[] cap] w fun e w' => e = .returned (.bool (anyBy l q)) ∧ Below w.heap.size w w' := by
  rw [← idxBy_any]
  go_enter Tryz.func84, Tryz.ntmps84
  go_wp2_with (go_at_call 125; refine (indexInt_calls l _ fn cap q _ h eg hq).mono ?_; rintro e w' ⟨rfl, hb⟩)
  go_ret
  exact ⟨rfl, hb⟩

theorem checkN_calls (k n : Int) (g : Nat) (w : World) (h : w.cell? ⟨g, 0, none⟩ = some (.int .i64 n)) :
    Calls Tryz.prog 85 #[.int .i64 k, .pointer (some ⟨g, 0, none⟩)] w fun e w' => e = .returned (.bool (decide (k < 0 ∨ n ≤ k))) ∧ Below w.heap.size w w' := by
  by_cases h1 : k < 0
  · have hx : decide (k < 0 ∨ n ≤ k) = true := by simp [h1]
    rw [hx]
    clear hx
    go_enter Tryz.func85, Tryz.ntmps85
    go_wp2
    go_ret
    exact ⟨rfl, Below.refl _ _⟩
  · by_cases h2 : n ≤ k
    · have hx : decide (k < 0 ∨ n ≤ k) = true := by simp [h2]
      rw [hx]
      clear hx
      go_enter Tryz.func85, Tryz.ntmps85
      go_wp2
      go_ret
      exact ⟨rfl, Below.refl _ _⟩
    · have hx : decide (k < 0 ∨ n ≤ k) = false := by simp [h1, h2]
      rw [hx]
      clear hx
      go_enter Tryz.func85, Tryz.ntmps85
      go_wp2
      go_ret
      exact ⟨rfl, Below.refl _ _⟩
theorem checkS_calls (l : List Txt) (s : Txt) (v : Value) (g : Nat) (w : World) (hv : Strs w l v) (h : w.cell? ⟨g, 0, none⟩ = some v) :
    Calls Tryz.prog 86 #[.string s, .pointer (some ⟨g, 0, none⟩)] w fun e w' => e = .returned (.bool (!has l s)) ∧ Below w.heap.size w w' := by
  obtain ⟨b, o, c, p, rfl, _⟩ := hv.cells
  go_enter Tryz.func86, Tryz.ntmps86
  go_wp2_with (fail)
  refine (contains_calls l s _ _ hv).mono ?_
  rintro e w1 ⟨rfl, rfl⟩
  go_wp2
  go_ret
  exact ⟨rfl, Below.refl _ _⟩

/-- Whether a bound is out of range. -/
def rangeB (n : Int) (b : Bnd) : Bool := decide (bTo b < -1) || (decide (n ≤ bTo b) || ((anyBy (bFrom b) fun k => decide (k < 0 ∨ n ≤ k)) || decide (400 < (bFrom b).length)))
theorem rangeB_iff {n : Int} {b : Bnd} : rangeB n b = true ↔ (bTo b < -1 ∨ n ≤ bTo b ∨ (∃ k ∈ bFrom b, k < 0 ∨ n ≤ k) ∨ 400 < (bFrom b).length) := by
  unfold rangeB
  simp only [Bool.or_eq_true, decide_eq_true_eq, any_iff]
theorem bndErr_range {l : List Txt} {acts : List (Txt × Txt)} {n : Int} {b : Bnd} (h : rangeB n b = true) : bndErr l acts n b = 3 := by
  unfold bndErr
  rw [if_pos (rangeB_iff.1 h)]
theorem bndErr_lab {l : List Txt} {acts : List (Txt × Txt)} {n : Int} {b : Bnd} (h : rangeB n b = false) (h1 : labE l acts (bL b) ≠ 0) : bndErr l acts n b = labE l acts (bL b) := by
  unfold bndErr
  rw [if_neg (fun e => by rw [rangeB_iff.2 e] at h; cases h), if_pos h1]
theorem bndErr_into {l : List Txt} {acts : List (Txt × Txt)} {n : Int} {b : Bnd} (h : rangeB n b = false) (h1 : labE l acts (bL b) = 0) (h2 : labE l acts (bInto b) ≠ 0) : bndErr l acts n b = labE l acts (bInto b) := by
  unfold bndErr
  rw [if_neg (fun e => by rw [rangeB_iff.2 e] at h; cases h), if_neg (by omega), if_pos h2]
theorem bndErr_many {l : List Txt} {acts : List (Txt × Txt)} {n : Int} {b : Bnd} (h : rangeB n b = false) (h1 : labE l acts (bL b) = 0) (h2 : labE l acts (bInto b) = 0) (h3 : 6 < (bFor b).length) : bndErr l acts n b = 2 := by
  unfold bndErr
  rw [if_neg (fun e => by rw [rangeB_iff.2 e] at h; cases h), if_neg (by omega), if_neg (by omega), if_pos h3]
theorem bndErr_who {l : List Txt} {acts : List (Txt × Txt)} {n : Int} {b : Bnd} (h : rangeB n b = false) (h1 : labE l acts (bL b) = 0) (h2 : labE l acts (bInto b) = 0) (h3 : ¬ 6 < (bFor b).length) :
    bndErr l acts n b = if (anyBy (bFor b) fun s => !has l s) = true then 5 else 0 := by
  unfold bndErr
  rw [if_neg (fun e => by rw [rangeB_iff.2 e] at h; cases h), if_neg (by omega), if_neg (by omega), if_neg h3]
  by_cases e : (anyBy (bFor b) fun s => !has l s) = true
  · obtain ⟨s, hs, e1⟩ := any_iff.1 e
    rw [if_pos e, if_neg]
    intro e2
    rw [List.all_eq_true.1 e2 s hs] at e1
    cases e1
  · rw [if_neg e, if_pos]
    refine List.all_eq_true.2 fun s hs => ?_
    cases e1 : has l s with
    | true => rfl
    | false => exact absurd (any_iff.2 ⟨s, hs, by rw [e1]; rfl⟩) e
end Go.Proofs.YtcgihpfanfbonaaGreatDoor
