/-
  Labels in a row of the call's own into which labels are stored; slices.Clone of labels. Plain law: the document's way to the least labels comes to labels that the program's may go to, and back. The reference's LeastOf.
-/
import Derived.Test.YtcgihpfanfbonaaGreatDoorSB03
import Derived.Test.YtcgihpfanfbonaaGreatDoorLN23
import Derived.Test.YtcgihpfanfbonaaGreatDoorSB00
import Derived.Test.YtcgihpfanfbonaaGreatDoorLN22
import Derived.Test.YtcgihpfanfbonaaGreatDoorLN24
import Derived.Deep.LoopGhost
import Derived.Deep.RegionHeld3
namespace Go.Proofs.YtcgihpfanfbonaaGreatDoor
open Go.RowKit Go.Maps
set_option linter.unusedVariables false
set_option linter.unusedSimpArgs false

/-- The cells of labels. -/
def CsL (w : World) (m : List Lab) (cs : List Value) : Prop := cs.length = m.length ∧ ∀ k (hk : k < m.length), ∃ u, cs[k]? = some u ∧ Lbl w m[k] u
/-- Labels in a row of the call's own. -/
def OwnL (base : Nat) (w : World) (v : Value) (m : List Lab) : Prop := ∃ cs, w.ownsRow base 25 1 v m.length cs ∧ CsL w m cs
theorem CsL.below {w w' : World} {m : List Lab} {cs : List Value} (h : CsL w m cs) (hb : Below w.heap.size w w') : CsL w' m cs := ⟨h.1, fun k hk => by
  obtain ⟨u, e, hu⟩ := h.2 k hk
  exact ⟨u, e, hu.stays (keeps_of_below hb)⟩⟩
/-- So many cells that hold slices. -/
def SlTo (w : World) (g N : Nat) : Prop := ∀ k, k < N → ∃ p n c, w.cell? ⟨g, k, none⟩ = some (.slice p n c)
theorem Strs.setAt {w : World} {g N z : Nat} (hr : SlTo w g N) (hz : z < N) {l : List Txt} {v : Value} (h : Strs w l v) (x : Value) : Strs (w.setCell ⟨g, z, none⟩ x) l v := by
  obtain ⟨p, c, e, h1, h2, h3⟩ := h
  refine ⟨p, c, e, h1, h2, ?_⟩
  rcases h3 with h3 | ⟨b, o, hp, h3⟩
  · exact .inl h3
  · refine .inr ⟨b, o, hp, fun j hj => ?_⟩
    obtain ⟨vs, g1, g2, g3⟩ := h3 j hj
    have g1' : vs = [.string l[j]] := g1
    subst g1'
    refine ⟨_, rfl, g2, fun k y hy => ?_⟩
    have g0 := g3 k y hy
    rw [World.cell?_setCell_other _ _ _ _ (fun e => ?_)]
    · exact g0
    · obtain ⟨_, _, _, e1⟩ := hr z hz
      rw [e] at e1
      match k, hy with
      | 0, hy =>
        simp at hy; subst hy
        rw [g0] at e1; cases e1
      | k + 1, hy => simp at hy
theorem Lbl.setAt {w : World} {g N z : Nat} (hr : SlTo w g N) (hz : z < N) {l : Lab} {v : Value} (h : Lbl w l v) (x : Value) : Lbl (w.setCell ⟨g, z, none⟩ x) l v := by
  obtain ⟨p, c, e, h1, h2, h3⟩ := h
  refine ⟨p, c, e, h1, h2, ?_⟩
  rcases h3 with h3 | ⟨b, o, hp, h3⟩
  · exact .inl h3
  · refine .inr ⟨b, o, hp, fun j hj => ?_⟩
    obtain ⟨vs, ⟨us, us', e0, e1, ⟨v', e2, hs⟩⟩, g2, g3⟩ := h3 j hj
    have e1' : us = [.string l[j].1] := e1
    subst e1' e2 e0
    have g0 := g3 0 _ rfl
    refine ⟨_, ⟨_, _, rfl, rfl, ⟨v', rfl, Strs.setAt hr hz hs x⟩⟩, g2, fun k y hy => ?_⟩
    have gk := g3 k y hy
    rw [World.cell?_setCell_other _ _ _ _ (fun e => ?_)]
    · exact gk
    · have eb : g = b := congrArg Addr.block e
      have ei : z = o + j * 2 + k := congrArg Addr.off e
      subst eb
      match k, hy with
      | 0, hy =>
        obtain ⟨_, _, _, e1⟩ := hr (o + j * 2 + 0) (by omega)
        rw [g0] at e1; cases e1
      | 1, hy =>
        obtain ⟨_, _, _, e1⟩ := hr (o + j * 2 + 0) (by omega)
        rw [g0] at e1; cases e1
      | k + 2, hy => simp at hy
section
variable {base : Nat} {w w' : World} {v : Value} {m : List Lab} {g n c : Nat}
theorem OwnL.below (h : OwnL base w v m) (hb : Below w.heap.size w w') : OwnL base w' v m := by
  obtain ⟨cs, h1, h2⟩ := h
  exact ⟨cs, own_below h1 hb, h2.below hb⟩
theorem OwnL.slice (h : OwnL base w v m) : ∃ p c, v = .slice p m.length c ∧ (0 < m.length → ∃ g, p = some ⟨g, 0, none⟩ ∧ base ≤ g ∧ g < w.heap.size) := by
  obtain ⟨cs, h1, h2⟩ := h
  rcases h1.2 with ⟨rfl, e⟩ | ⟨g, cap, cur, rfl, hb, hg, _⟩
  · exact ⟨none, 0, by rw [e], fun h => by omega⟩
  · exact ⟨_, _, rfl, fun _ => ⟨g, rfl, hb, (Array.getElem?_eq_some_iff.1 hg).1⟩⟩
theorem OwnL.cell (h : OwnL base w (.slice (some ⟨g, 0, none⟩) n c) m) {k : Nat} (hk : k < m.length) : ∃ p cc, w.cell? ⟨g, k, none⟩ = some (.slice p m[k].length cc) ∧ Lbl w m[k] (.slice p m[k].length cc) := by
  obtain ⟨cs, h1, h2⟩ := h
  obtain ⟨u, e, hu⟩ := h2.2 k hk
  have hn : n = m.length := by
    rcases h1.2 with ⟨e, _⟩ | ⟨_, _, _, e, _⟩
    · cases e
    · simp at e; exact e.2.1
  subst hn
  have := h1.cellAt k (by omega)
  have hu' := hu
  obtain ⟨p, cc, rfl, _⟩ := hu
  exact ⟨p, cc, by rw [this, e], hu'⟩
theorem OwnL.slTo (h : OwnL base w (.slice (some ⟨g, 0, none⟩) n c) m) : SlTo w g m.length := fun k hk => by
  obtain ⟨p, cc, e, _⟩ := h.cell hk
  exact ⟨_, _, _, e⟩
theorem OwnL.frozen (h : OwnL base w (.slice (some ⟨g, 0, none⟩) n c) m) (hn : m.length = n) (k : Nat) : w.frozen? ⟨g, k, none⟩ = false := by
  subst hn
  obtain ⟨cs, h1, h2⟩ := h
  exact h1.frozenAt k
theorem OwnL.labs (h : OwnL base w v m) (hn : m.length ≤ 400) : Labs w m v := by
  obtain ⟨p, c, rfl, hp⟩ := h.slice
  by_cases h0 : m = []
  · subst h0
    obtain ⟨cs, h1, _⟩ := h
    rcases h1.2 with ⟨e, _⟩ | ⟨g, cap, cur, e, _, _, e1, e2, _⟩
    · cases e
      exact nil_readsS _ _ _
    · cases e
      exact ⟨_, _, rfl, e1, e2, .inl rfl⟩
  · obtain ⟨g, rfl, _⟩ := hp (List.length_pos_iff.2 h0)
    have hc : m.length ≤ c ∧ c ≤ maxLen := by
      obtain ⟨cs, h1, _⟩ := h
      rcases h1.2 with ⟨e, _⟩ | ⟨g, cap, cur, e, _, _, e1, e2, _⟩
      · cases e
      · cases e; exact ⟨e1, e2⟩
    refine ⟨_, c, rfl, hc.1, hc.2, .inr ⟨g, 0, rfl, fun k hk => ?_⟩⟩
    obtain ⟨p, cc, e1, e2⟩ := h.cell hk
    refine ⟨_, ⟨_, rfl, e2⟩, rfl, fun j x hx => ?_⟩
    match j, hx with
    | 0, hx =>
      simp at hx; subst hx
      simpa using e1
    | j + 1, hx => simp at hx
theorem OwnL.set (h : OwnL base w (.slice (some ⟨g, 0, none⟩) n c) m) (hn : m.length = n) {k : Nat} (hk : k < m.length) {x : Lab} {u : Value} (hx : Lbl w x u) : OwnL base (w.setCell ⟨g, k, none⟩ u) (.slice (some ⟨g, 0, none⟩) n c) (m.set k x) := by
  subst hn
  have hs := h.slTo
  obtain ⟨cs, h1, h2⟩ := h
  refine ⟨cs.set k u, by rw [List.length_set]; exact (h1.stored k u).1, by rw [List.length_set, List.length_set]; exact h2.1, fun j hj => ?_⟩
  rw [List.length_set] at hj
  by_cases e : k = j
  · subst e
    refine ⟨u, by rw [List.getElem?_set_self (by rw [h2.1]; exact hk)], ?_⟩
    rw [List.getElem_set_self]
    exact Lbl.setAt hs hk hx u
  · obtain ⟨y, e1, e2⟩ := h2.2 j hj
    refine ⟨y, by rw [List.getElem?_set_ne e]; exact e1, ?_⟩
    rw [List.getElem_set_ne e]
    exact Lbl.setAt hs hk e2 u
end
set_option maxHeartbeats 1000000 in
set_option maxRecDepth 100000 in
theorem cloneM_calls (x : List Lab) (v : Value) (w : World) (h : Labs w x v) (hn : x.length ≤ 1048576) :
    Calls Tryz.prog 56 #[v] w fun e w' => ∃ v', e = .returned v' ∧ OwnL w.heap.size w' v' x ∧ Below w.heap.size w w' := by
  obtain ⟨t0, hi, hz0, hz1, hz2⟩ := info_parts info_label
  have h' := h
  obtain ⟨b, o, c, p, rfl, hlc, hcm, hp, hx⟩ := h.cells
  have q25 : ∀ (w : World) (a : Option Addr) (n c n' c' : Nat), (binOp .eql 44 (.slice a n c) (.slice none n' c')).run Tryz.prog w = .ok (.bool a.isNone) w := fun w a n c n' c' => Lib.run_eql_slice_nil w _ _ a n c n' c' Tryz.underlying44
  cases p with
  | none =>
    have hx0 : x = [] := by
      cases x with
      | nil => rfl
      | cons a b => cases hp (by simp)
    subst hx0
    clear hx hp h h'
    go_enter Tryz.func56, Tryz.ntmps56
    go_wp2
    go_ret
    exact ⟨_, rfl, ⟨[], World.ownsRow_nil _ _ _ _, rfl, fun k hk => nomatch hk⟩, Below.refl _ _⟩
  | some ad =>
    have hcs : ∃ cs : List Value, CsL w x cs ∧ ∀ j u, cs[j]? = some u → w.cell? (ad.add j) = some u := by
      by_cases h0 : x = []
      · subst h0; exact ⟨[], ⟨rfl, fun k hk => nomatch hk⟩, fun j u e => by simp at e⟩
      · obtain rfl : ad = ⟨b, o, none⟩ := by have := hp (List.length_pos_iff.2 h0); simpa using this
        refine ⟨(List.range x.length).map fun k => (w.cell? ⟨b, o + k, none⟩).getD (.bool true), ⟨by simp, fun k hk => ?_⟩, fun j u e => ?_⟩
        · obtain ⟨u, e1, e2⟩ := hx k hk
          exact ⟨u, by simp [hk, e1], e2⟩
        · by_cases hj : j < x.length
          · obtain ⟨u', e1, e2⟩ := hx j hj
            simp [hj, e1] at e
            subst e
            by_cases j0 : j = 0
            · subst j0; simpa [Addr.add] using e1
            · simpa [Addr.add, j0] using e1
          · simp [hj] at e
    obtain ⟨cs, hcs, hc⟩ := hcs
    have HVL : Hid (cs.length = x.length * 1) := by unfold Hid; rw [hcs.1]; omega
    have HC := Lib.hid hc
    have HCS := Lib.hid hcs
    have H1 : Hid (∀ u ∈ cs, u.oneCell' = true) := fun u hu => by
      obtain ⟨j, hj, rfl⟩ := List.getElem_of_mem hu
      obtain ⟨u', e1, e2⟩ := hcs.2 j (by rw [← hcs.1]; exact hj)
      obtain ⟨p, cc, rfl, _⟩ := e2
      rw [List.getElem?_eq_getElem hj] at e1
      simp at e1; rw [e1]; rfl
    clear hx hp h h' hc hcs
    go_enter Tryz.func56, Tryz.ntmps56
    go_wp2_with (at_builtin; refine wpList_append_own _ rfl _ _ 44 rfl w.heap.size 25 t0 (.slice none 0 0) 1 24 Tryz.underlying44 hi hz0 hz1 hz2 rfl (by decide) _ _ _ rfl (World.ownsRow_made w #[] 0 (Nat.le_refl _) (Nat.zero_le _) (by simp)) ad x.length c cs rfl HVL.out ?qc2 H1.out ?qc4 ?qc5 ?qc6 ?_)
    case qc2 =>
      intro j u hj
      exact Lib.cell?_alloc_some _ (HC.out j u hj)
    case qc4 => unfold maxLen; omega
    case qc5 => omega
    case qc6 => simp
    intro v' w1 hown hgrow _
    have hB : Below w.heap.size w w1 := ((Below.refl _ w).alloc (Nat.le_refl _) _).grown hgrow (by simp) (by intro k hk; simp [Value.ownBlock] at hk; omega)
    have hR : OwnL w.heap.size w1 v' x := ⟨cs, by simpa using hown, HCS.out.below hB⟩
    have HB := Lib.hid hB
    have HR := Lib.hid hR
    clear hown hgrow hB hR
    go_wp2
    go_ret
    exact ⟨_, rfl, HR.out, HB.out⟩
end Go.Proofs.YtcgihpfanfbonaaGreatDoor
namespace Go.Proofs.YtcgihpfanfbonaaGreatDoor
set_option linter.unusedVariables false
set_option linter.unusedSimpArgs false

/-- What a bound brings, by the document. -/
def brgL (q : Txt → Txt → Bool) (m : List Lab) (b : Bnd) : Lab := lessL q (allL m (bL b) (bFrom b)) (bFor b)
/-- One bound of a round: `nx` is what is made of `m`. -/
def stepJ (q : Txt → Txt → Bool) (m nx : List Lab) (b : Bnd) : List Lab := if bTo b < 0 then nx else nx.set (bTo b).toNat (normL q (atL nx (bTo b) ++ brgL q m b))
def nextJ (q : Txt → Txt → Bool) (m : List Lab) (bs : List Bnd) (i : Nat) : List Lab := (bs.take i).foldl (stepJ q m) m
theorem nextJ_zero (q : Txt → Txt → Bool) (m : List Lab) (bs : List Bnd) : nextJ q m bs 0 = m := rfl
theorem nextJ_succ {q : Txt → Txt → Bool} {m : List Lab} {bs : List Bnd} {i : Nat} (hi : i < bs.length) : nextJ q m bs (i + 1) = stepJ q m (nextJ q m bs i) bs[i] := by
  unfold nextJ; rw [List.take_succ_eq_append_getElem hi, List.foldl_append]; rfl
def nxAll (q : Txt → Txt → Bool) (m : List Lab) (bs : List Bnd) : List Lab := nextJ q m bs bs.length
/-- Somewhere there is more. -/
def moreTo (q : Txt → Txt → Bool) (nx m : List Lab) (k : Nat) : Bool := (List.range k).any fun j => !flowsB q ((nx[j]?).getD []) ((m[j]?).getD [])
theorem moreTo_succ (q : Txt → Txt → Bool) (nx m : List Lab) (k : Nat) : moreTo q nx m (k + 1) = (moreTo q nx m k || !flowsB q ((nx[k]?).getD []) ((m[k]?).getD [])) := by
  unfold moreTo
  rw [List.range_succ, List.any_append]
  simp
section
variable {l : List Txt} {acts : List (Txt × Txt)}
theorem LeM.refl' {n : Nat} {m : List Lab} (h : RightM l n m) : LeM (mayB l acts) m m := fun k => by
  cases e : m[k]? with
  | none => exact flows_iff.2 fun x hx => by cases hx
  | some x => exact flows_self (h.right x (List.mem_of_getElem? e))
theorem LeM.trans' {a b c : List Lab} (h1 : LeM (mayB l acts) a b) (h2 : LeM (mayB l acts) b c) : LeM (mayB l acts) a c := fun k => flows_trans may_trans' (h1 k) (h2 k)
theorem Sound.rightM {n : Nat} {bs : List Bnd} {m : List Lab} (h : Sound l acts n bs m) : RightM l n m := h.right
/-- One bound of a round keeps all that is told of it. -/
theorem Sound.stepJ (hl : l.length ≤ 6) {n : Nat} {bs : List Bnd} {m nx : List Lab} (h : Sound l acts n bs m) (hx : Sound l acts n bs nx) (hle : LeM (mayB l acts) m nx) {b : Bnd} (hb : b ∈ bs) (hr : RightB l n b) :
    Sound l acts n bs (stepJ (mayB l acts) m nx b) ∧ LeM (mayB l acts) nx (stepJ (mayB l acts) m nx b) ∧ (¬ bTo b < 0 → flowsB (mayB l acts) (intoL (mayB l acts) m b) (atL (stepJ (mayB l acts) m nx b) (bTo b)) = true) := by
  have rb : RightL l (brgL (mayB l acts) m b) := (h.right.all hr.lab.1 _).less _ _
  have ra := hx.right.at (bTo b)
  have hlen := hx.right.len
  have hhi := hr.hi
  have hsame := fun t => brings_same (acts := acts) h.right hr.lab.1 (b := b) t
  unfold Go.Proofs.YtcgihpfanfbonaaGreatDoor.stepJ
  by_cases h0 : bTo b < 0
  · rw [if_pos h0]
    exact ⟨hx, LeM.refl' hx.right, fun hn => absurd h0 hn⟩
  · rw [if_neg h0]
    have hat := atL_at (m := nx) (k := bTo b) (by omega) (by omega)
    have hlt : (bTo b).toNat < nx.length := by omega
    have hself : atL (nx.set (bTo b).toNat (normL (mayB l acts) (atL nx (bTo b) ++ brgL (mayB l acts) m b))) (bTo b) = normL (mayB l acts) (atL nx (bTo b) ++ brgL (mayB l acts) m b) := by
      unfold atL
      rw [List.getElem?_set_self hlt]; rfl
    have fb : flowsB (mayB l acts) (brgL (mayB l acts) m b) (normL (mayB l acts) (atL nx (bTo b) ++ brgL (mayB l acts) m b)) = true := flows_right (flows_norm (ra.append rb))
    refine ⟨⟨⟨by simp [hlen], fun x hx' => ?_⟩, fun x hx' => ?_, fun m' hm' hh k => ?_⟩, fun k => ?_, fun _ => by rw [hself, ← hsame]; exact fb⟩
    · rcases List.mem_or_eq_of_mem_set hx' with hx' | rfl
      · exact hx.right.right x hx'
      · exact (ra.append rb).norm _
    · rcases List.mem_or_eq_of_mem_set hx' with hx' | rfl
      · exact hx.few x hx'
      · exact norm_few hl (ra.append rb) _
    · by_cases e : (bTo b).toNat = k
      · subst e
        rw [List.getElem?_set_self hlt]
        have h1 := hx.least m' hm' hh (bTo b).toNat
        have hb' := hh b hb
        unfold holdsB at hb'
        rw [Bool.or_eq_true] at hb'
        rcases hb' with hb' | hb'
        · exact absurd (by simpa using hb') h0
        · refine join_flows h1 ?_
          rw [show brgL (mayB l acts) m b = lessL (mayB l acts) (allL m (bL b) (bFrom b)) (bFor b) from rfl, hsame]
          exact flows_trans may_trans' (into_mono h.right hm' (h.least m' hm' hh) hr.lab.1) hb'
      · rw [List.getElem?_set_ne e]
        exact hx.least m' hm' hh k
    · by_cases e : (bTo b).toNat = k
      · subst e
        rw [List.getElem?_set_self hlt, hat]
        exact flows_left (flows_norm (ra.append rb))
      · rw [List.getElem?_set_ne e]
        exact LeM.refl' hx.right k
theorem Sound.nextJ (hl : l.length ≤ 6) {n : Nat} {bs : List Bnd} {m : List Lab} (h : Sound l acts n bs m) (hB : ∀ b ∈ bs, RightB l n b) : ∀ i, i ≤ bs.length →
    Sound l acts n bs (nextJ (mayB l acts) m bs i) ∧ LeM (mayB l acts) m (nextJ (mayB l acts) m bs i) ∧ ∀ j (hj : j < bs.length), j < i → ¬ bTo bs[j] < 0 → flowsB (mayB l acts) (intoL (mayB l acts) m bs[j]) (atL (nextJ (mayB l acts) m bs i) (bTo bs[j])) = true
  | 0, _ => ⟨h, LeM.refl' h.right, fun j _ hj => absurd hj (Nat.not_lt_zero _)⟩
  | i + 1, hi => by
    obtain ⟨h1, h2, h3⟩ := h.nextJ hl hB i (by omega)
    have hi' : i < bs.length := by omega
    obtain ⟨g1, g2, g3⟩ := h.stepJ hl h1 h2 (List.getElem_mem hi') (hB _ (List.getElem_mem hi'))
    rw [nextJ_succ hi']
    refine ⟨g1, h2.trans' g2, fun j hj hji hn => ?_⟩
    by_cases e : j = i
    · subst e; exact g3 hn
    · refine flows_trans may_trans' (h3 j hj (by omega) hn) ?_
      exact g2 (bTo bs[j]).toNat
/-- Where nothing is more all bounds hold. -/
theorem still_least (hl : l.length ≤ 6) {n : Nat} {bs : List Bnd} {m : List Lab} (h : Sound l acts n bs m) (hB : ∀ b ∈ bs, RightB l n b) (hm : moreTo (mayB l acts) (nxAll (mayB l acts) m bs) m n = false) : LeastM l acts n bs m := by
  refine h.done fun b hb => ?_
  obtain ⟨j, hj, rfl⟩ := List.getElem_of_mem hb
  obtain ⟨_, _, h3⟩ := h.nextJ hl hB bs.length (Nat.le_refl _)
  unfold holdsB
  by_cases h0 : bTo bs[j] < 0
  · simp [h0]
  · have hlen := h.right.len
    have hr := hB _ hb
    have hhi := hr.hi
    have hq := h3 j hj hj h0
    have hk : flowsB (mayB l acts) (((nxAll (mayB l acts) m bs)[(bTo bs[j]).toNat]?).getD []) ((m[(bTo bs[j]).toNat]?).getD []) = true := by
      unfold moreTo at hm
      have := List.any_eq_false.1 hm (bTo bs[j]).toNat (List.mem_range.2 (by omega))
      simpa using this
    rw [Bool.or_eq_true]
    exact .inr (flows_trans may_trans' hq hk)
theorem sum_mono {α : Type} {f : α → Nat} : ∀ {a b : List α}, a.length = b.length → (∀ k (h : k < a.length) (h' : k < b.length), f a[k] ≤ f b[k]) → (a.map f).sum ≤ (b.map f).sum
  | [], [], _, _ => Nat.le_refl _
  | x :: a, y :: b, hl, h => by
    rw [List.map_cons, List.map_cons, List.sum_cons, List.sum_cons]
    have h0 := h 0 (by simp) (by simp)
    have := sum_mono (a := a) (b := b) (f := f) (by simpa using hl) fun k hk hk' => h (k + 1) (by simpa using hk) (by simpa using hk')
    simp only [List.getElem_cons_zero] at h0
    omega
  | [], _ :: _, hl, _ => by simp at hl
  | _ :: _, [], hl, _ => by simp at hl
theorem sum_strict {α : Type} {f : α → Nat} : ∀ {a b : List α}, a.length = b.length → (∀ k (h : k < a.length) (h' : k < b.length), f a[k] ≤ f b[k]) → (∃ k, ∃ (h : k < a.length) (h' : k < b.length), f a[k] < f b[k]) → (a.map f).sum < (b.map f).sum
  | [], [], _, _, ⟨k, h, _, _⟩ => absurd h (by simp)
  | x :: a, y :: b, hl, h, ⟨k, hk, hk', hs⟩ => by
    rw [List.map_cons, List.map_cons, List.sum_cons, List.sum_cons]
    have h0 := h 0 (by simp) (by simp)
    simp only [List.getElem_cons_zero] at h0
    have hr : ∀ k (hk : k < a.length) (hk' : k < b.length), f a[k] ≤ f b[k] := fun k hk hk' => h (k + 1) (by simpa using hk) (by simpa using hk')
    cases k with
    | zero =>
      simp only [List.getElem_cons_zero] at hs
      have := sum_mono (a := a) (b := b) (f := f) (by simpa using hl) hr
      omega
    | succ k =>
      simp only [List.getElem_cons_succ] at hs
      have := sum_strict (a := a) (b := b) (f := f) (by simpa using hl) hr ⟨k, by simpa using hk, by simpa using hk', hs⟩
      omega
  | [], _ :: _, hl, _, _ => by simp at hl
  | _ :: _, [], hl, _, _ => by simp at hl
theorem down_le {x y : Lab} (h : flowsB (mayB l acts) x y = true) : downN (mayB l acts) l x ≤ downN (mayB l acts) l y := by
  unfold downN
  refine List.countP_mono_left fun p hp h1 => ?_
  exact down_mono h p hp h1
/-- With more somewhere there is more in all. -/
theorem more_sum (hl : l.length ≤ 6) {n : Nat} {bs : List Bnd} {m : List Lab} (h : Sound l acts n bs m) (hB : ∀ b ∈ bs, RightB l n b) (hm : moreTo (mayB l acts) (nxAll (mayB l acts) m bs) m n = true) :
    sumN (mayB l acts) l m < sumN (mayB l acts) l (nxAll (mayB l acts) m bs) := by
  obtain ⟨h1, h2, _⟩ := h.nextJ hl hB bs.length (Nat.le_refl _)
  have e1 := h.right.len
  have e2 : (nxAll (mayB l acts) m bs).length = n := h1.right.len
  have hle : LeM (mayB l acts) m (nxAll (mayB l acts) m bs) := h2
  have hrx : RightM l n (nxAll (mayB l acts) m bs) := h1.right
  unfold sumN
  generalize nxAll (mayB l acts) m bs = nx at *
  have hk : ∀ k (hk : k < m.length) (hk' : k < nx.length), flowsB (mayB l acts) m[k] nx[k] = true := fun k hk hk' => by
    have := hle k
    rw [List.getElem?_eq_getElem hk, List.getElem?_eq_getElem hk'] at this
    exact this
  refine sum_strict (by omega) (fun k hk1 hk2 => down_le (hk k hk1 hk2)) ?_
  unfold moreTo at hm
  obtain ⟨k, hkr, hkn⟩ := List.any_eq_true.1 hm
  have hkn' : k < n := List.mem_range.1 hkr
  refine ⟨k, by omega, by omega, ?_⟩
  have hkm : k < m.length := by omega
  have hkx : k < nx.length := by omega
  rw [List.getElem?_eq_getElem hkm, List.getElem?_eq_getElem hkx] at hkn
  have hf : flowsB (mayB l acts) nx[k] m[k] = false := by simpa using hkn
  have r1 := h.right.right _ (List.getElem_mem hkm)
  have r2 := hrx.right _ (List.getElem_mem hkx)
  refine Nat.lt_of_lt_of_le (down_lt r1 r2 hf) (down_le ?_)
  exact join_flows (hk k hkm hkx) (flows_self r2)
/-- The program's labels are normal forms. -/
theorem iter_normal {q : Txt → Txt → Bool} {n : Nat} {bs : List Bnd} : ∀ k, ∀ x ∈ itersM q bs k (List.replicate n []), normL q x = x
  | 0, x, hx => by
    have e := List.eq_of_mem_replicate hx
    subst e
    simp [normL, normOf, allOf, srt, dedup]
  | k + 1, x, hx => by
    have step : ∀ (bs : List Bnd) (m : List Lab), (∀ x ∈ m, normL q x = x) → ∀ x ∈ roundM q bs m, normL q x = x := by
      intro bs
      induction bs with
      | nil => exact fun m h => h
      | cons b bs ih =>
        intro m h
        refine ih (stepM q m b) fun x hx => ?_
        unfold stepM at hx
        split at hx
        · exact h x hx
        · rcases List.mem_or_eq_of_mem_set hx with hx | rfl
          · exact h x hx
          · exact norm_self q _
    exact step bs _ (fun x hx => iter_normal k x hx) x hx
end
end Go.Proofs.YtcgihpfanfbonaaGreatDoor
namespace Go.Proofs.YtcgihpfanfbonaaGreatDoor
open Go.RowKit Go.Maps
set_option linter.unusedVariables false
set_option linter.unusedSimpArgs false

/-- At the head of the outer loop. -/
structure OInv (l : List Txt) (acts : List (Txt × Txt)) (bs : List Bnd) (N : Nat) (w wo : World) (hv : Value) (a : Bool) (m : List Lab) (k : Nat) : Prop where
  below : Below w.heap.size w wo
  labs : Labs wo m hv
  sound : Sound l acts N bs m
  fuel : a = true → 1 + (N * 192 - sumN (mayB l acts) l m) ≤ k
  done : a = false → LeastM l acts N bs m
section
variable {l : List Txt} {acts : List (Txt × Txt)} {bs : List Bnd} {N : Nat} {w wo wn : World} {hv nv : Value} {m : List Lab} {k : Nat}
theorem OInv.more (h : OInv l acts bs N w wo hv true m k) (hl : l.length ≤ 6) (hB : ∀ b ∈ bs, RightB l N b) (hm : moreTo (mayB l acts) (nxAll (mayB l acts) m bs) m N = true) (hb : Below wo.heap.size wo wn) (hnv : Labs wn (nxAll (mayB l acts) m bs) nv) :
    OInv l acts bs N w wn nv true (nxAll (mayB l acts) m bs) (k - 1) ∧ k - 1 < k := by
  have h1 := h.fuel rfl
  obtain ⟨g1, _, _⟩ := h.sound.nextJ hl hB bs.length (Nat.le_refl _)
  have h2 := more_sum hl h.sound hB hm
  have h3 := sumN_le hl (mayB l acts) (nxAll (mayB l acts) m bs)
  have h4 : (nxAll (mayB l acts) m bs).length = N := g1.right.len
  rw [h4] at h3
  exact ⟨⟨h.below.trans (hb.mono h.below.size), hnv, g1, fun _ => by omega, fun e => nomatch e⟩, by omega⟩
theorem OInv.still (h : OInv l acts bs N w wo hv true m k) (hl : l.length ≤ 6) (hB : ∀ b ∈ bs, RightB l N b) (hm : moreTo (mayB l acts) (nxAll (mayB l acts) m bs) m N = false) (hb : Below wo.heap.size wo wn) :
    OInv l acts bs N w wn hv false m (k - 1) ∧ k - 1 < k := by
  have h1 := h.fuel rfl
  exact ⟨⟨h.below.trans (hb.mono h.below.size), h.labs.stays (keeps_of_below hb), h.sound, (fun e => nomatch e), fun _ => still_least hl h.sound hB hm⟩, by omega⟩
theorem Labs.open' (h : Labs w m hv) (hn : m.length = N) : ∃ b o p c, hv = .slice p N c ∧ N ≤ c ∧ c ≤ 9223372036854775807 ∧ (0 < N → p = some ⟨b, o, none⟩) ∧ ∀ i (hi : i < m.length), ∃ u, w.cell? ⟨b, o + i, none⟩ = some u ∧ Lbl w m[i] u := by
  subst hn
  obtain ⟨b, o, c, p, h1, h2, h3, h4, h5⟩ := h.cells
  exact ⟨b, o, p, c, h1, h2, h3, h4, h5⟩
theorem less_few (hl : l.length ≤ 6) {x : Lab} (h : RightL l x) (q : Txt → Txt → Bool) (by_ : List Txt) : (lessL q x by_).length ≤ 192 := by
  unfold lessL
  exact norm_few hl (fun p hp => h p (List.mem_filter.1 hp).1) q
end
/-- The cells of one bound. -/
def BoxIs (w : World) (b : Nat) (x0 x1 x2 x3 x4 x5 : Value) : Prop :=
  w.cell? ⟨b, 0, none⟩ = some x0 ∧ w.cell? ⟨b, 1, none⟩ = some x1 ∧ w.cell? ⟨b, 2, none⟩ = some x2 ∧ w.cell? ⟨b, 3, none⟩ = some x3 ∧ w.cell? ⟨b, 4, none⟩ = some x4 ∧ w.cell? ⟨b, 5, none⟩ = some x5
theorem BoxIs.of_block {w w' : World} {b : Nat} {x0 x1 x2 x3 x4 x5 : Value} (h : BoxIs w b x0 x1 x2 x3 x4 x5) (e : w'.heap[b]? = w.heap[b]?) : BoxIs w' b x0 x1 x2 x3 x4 x5 := by
  obtain ⟨h0, h1, h2, h3, h4, h5⟩ := h
  unfold BoxIs
  rw [World.cell?_of_block (a := ⟨b, 0, none⟩) e, World.cell?_of_block (a := ⟨b, 1, none⟩) e, World.cell?_of_block (a := ⟨b, 2, none⟩) e, World.cell?_of_block (a := ⟨b, 3, none⟩) e, World.cell?_of_block (a := ⟨b, 4, none⟩) e, World.cell?_of_block (a := ⟨b, 5, none⟩) e]
  exact ⟨h0, h1, h2, h3, h4, h5⟩
theorem setCell_block {w : World} {a : Addr} {k : Nat} (x : Value) (h : k ≠ a.block) : (w.setCell a x).heap[k]? = w.heap[k]? := Below.heap_setCell _ _ _ _ (by first | exact h | exact fun e => h e.symm | omega)

set_option maxHeartbeats 8000000 in
set_option maxRecDepth 100000 in
theorem refLeast_calls (l : List Txt) (acts : List (Txt × Txt)) (N : Nat) (bs : List Bnd) (u s : Value) (w : World) (hu : Prs w acts u) (hs : Bnds w bs s) (hc : checkC l acts = 0) (hB : ∀ b ∈ bs, RightB l N b) (hN : N ≤ 400) (hn : bs.length ≤ 400) :
    Calls Tryz.prog 21 #[u, .int .i64 N, s] w fun e w' => ∃ y m, e = .returned y ∧ Labs w' m y ∧ LeastM l acts N bs m ∧ Below w.heap.size w w' := by
  have hu0 := hu
  have hs0 := hs
  obtain ⟨b1, o1, c1, p1, rfl, _⟩ := hu.cells
  obtain ⟨b2, o2, c2, p2, rfl, hlc2, hcm2, hp2, hcells2⟩ := hs.cells
  have hmk := run_make_row' (P := Tryz.prog) 44 25 (.slice none 0 0) 24 Tryz.underlying44 info_label rfl .i64 .i64 N (by omega) (by omega)
  have hl6 : l.length ≤ 6 := (checkC_zero hc).1
  have HU : Hid (∀ W, Below w.heap.size w W → Prs W acts (.slice p1 acts.length c1)) := fun W h => hu0.stays (keeps_of_below h)
  have HCE := Lib.hid hcells2
  have HPP := Lib.hid hp2
  have HN10 : Hid (acts.length ≤ 10) := (checkC_zero hc).2.1
  have HC := Lib.hid hc
  have HRB := Lib.hid hB
  have HN4 := Lib.hid hN
  have HNB := Lib.hid hn
  have HL6 := Lib.hid hl6
  have HL0 : Hid (OInv l acts bs N w (w.alloc (.cells (madeCells #[.slice none 0 0] N) 25)) (.slice (some ⟨w.heap.size, 0, none⟩) N N) true (List.replicate N []) (1 + N * 192)) :=
    ⟨(Below.refl _ w).alloc (Nat.le_refl _) _, (Outs.start w N _).labels hN, Sound.start l acts N bs, fun _ => by omega, fun e => nomatch e⟩
  obtain ⟨W2, eW⟩ : ∃ W2, w.alloc (.cells (madeCells #[.slice none 0 0] N) 25) = W2 := ⟨_, rfl⟩
  rw [eW] at HL0
  clear hu hu0 hs hs0 hcells2 hp2 hc hB hN hn hl6
  go_enter Tryz.func21, Tryz.ntmps21
  go_wp2
  go_loopg [7, 8] (1 + N * 192) (fun k hv ag ws => ∃ (a : Bool) (m : List Lab) (wo : World), ag = .bool a ∧ wo = ws ∧ Hid (OInv l acts bs N w wo hv a m k))
  case atStart => exact ⟨true, _, _, rfl, rfl, HL0.out⟩
  case round =>
    clear HL0
    obtain ⟨a, m, wo, rfl, rfl, HI⟩ := hrel
    obtain ⟨bh, oh, ph, ch, rfl, hlh, hch, hph, hcellh⟩ := HI.out.labs.open' HI.out.sound.right.len
    cases a with
    | false =>
      have HR := Lib.hid (HI.out.done rfl)
      clear hcellh hph
      go_wp2
      go_ret
      exact ⟨_, m, rfl, HI.out.labs, HR.out, HI.out.below⟩
    | true =>
      have HCELLH := Lib.hid hcellh
      have HPH := Lib.hid hph
      have HML : Hid (m.length = N) := HI.out.sound.right.len
      have HCL := Lib.hid (cloneM_calls m _ wo HI.out.labs (by have := HML.out; have := HN4.out; omega))
      clear hcellh hph
      go_wp2_with (fail)
      refine HCL.out.mono ?_
      rintro e w4 ⟨nv, rfl, ho4, hb4⟩
      obtain ⟨pn, cn, rfl, hpn⟩ := ho4.slice
      rw [HML.out] at ho4 hpn
      rw [HML.out]
      have HO4 := Lib.hid ho4
      have HPN := Lib.hid hpn
      have HB4 := Lib.hid hb4
      clear ho4 hpn hb4
      go_wp2
      go_loopw [20] (fun i ws => ∃ (j : Nat) (wi : World), j ≤ bs.length ∧ i = .int .i64 j ∧ wi = ws ∧ Hid (Below wo.heap.size wo wi) ∧ Hid (OwnL wo.heap.size wi (.slice pn N cn) (nextJ (mayB l acts) m bs j))) (fun i _ => bs.length - (intOf i).toNat)
      case atStart => exact ⟨0, _, Nat.zero_le _, rfl, rfl, HB4, HO4⟩
      case round =>
        clear HO4 HB4
        obtain ⟨j, wi, hj, rfl, rfl, HBW, HOW⟩ := hrel
        by_cases hlj : j < bs.length
        · obtain ⟨x0, x1, x2, x3, x4, x5, his, e0, e1, e2, e3, e4, e5⟩ := HCE.out j hlj
          obtain rfl := HPP.out (by omega)
          have hbw : Below w.heap.size w wi := HI.out.below.trans (HBW.out.mono HI.out.below.size)
          have his' := his.stays (keeps_of_below hbw)
          have k0 : wi.cell? ⟨b2, o2 + j * 6, none⟩ = some x0 := (hbw.cell (cell_lt e0)).trans e0
          have k1 : wi.cell? ⟨b2, o2 + j * 6 + 1, none⟩ = some x1 := (hbw.cell (cell_lt e1)).trans e1
          have k2 : wi.cell? ⟨b2, o2 + j * 6 + 2, none⟩ = some x2 := (hbw.cell (cell_lt e2)).trans e2
          have k3 : wi.cell? ⟨b2, o2 + j * 6 + 3, none⟩ = some x3 := (hbw.cell (cell_lt e3)).trans e3
          have k4 : wi.cell? ⟨b2, o2 + j * 6 + 4, none⟩ = some x4 := (hbw.cell (cell_lt e4)).trans e4
          have k5 : wi.cell? ⟨b2, o2 + j * 6 + 5, none⟩ = some x5 := (hbw.cell (cell_lt e5)).trans e5
          clear his e0 e1 e2 e3 e4 e5
          have hrb := HRB.out _ (List.getElem_mem hlj)
          have hnx : nextJ (mayB l acts) m bs (j + 1) = stepJ (mayB l acts) m (nextJ (mayB l acts) m bs j) bs[j] := nextJ_succ hlj
          obtain ⟨hsn, _, _⟩ := HI.out.sound.nextJ HL6.out HRB.out j hj
          generalize nextJ (mayB l acts) m bs j = nx at *
          have HNX1 := Lib.hid hnx
          clear hnx
          have hto := his'.to
          have hat := his'.at_
          subst hto hat
          generalize bs[j] = bj at *
          have HRBJ := Lib.hid hrb
          have HSN := Lib.hid hsn
          clear hrb hsn
          obtain ⟨bf, of_, cf, pf, rfl, _⟩ := his'.from_.cells
          obtain ⟨bl, ol, cl, pl, rfl, _⟩ := his'.lab.cells
          obtain ⟨bi, oi, ci, pi_, rfl, _⟩ := his'.into.cells
          obtain ⟨bo, oo, co, po, rfl, _⟩ := his'.for_.cells
          obtain ⟨W4, eW4⟩ : ∃ W4, wi.alloc (.cells #[.slice pf (bFrom bj).length cf, .slice pl (bL bj).length cl, .int .i64 (bTo bj), .slice pi_ (bInto bj).length ci, .int .i64 bj.2.2.2.2.1, .slice po (bFor bj).length co] 93) = W4 := ⟨_, rfl⟩
          obtain ⟨z4, hW4, m4⟩ := boxes1 eW4
          have j0 := m4 0
          have j1 := m4 1
          have j2 := m4 2
          have j3 := m4 3
          have j4 := m4 4
          have j5 := m4 5
          simp only [List.getElem?_toArray, List.getElem?_cons_zero, List.getElem?_cons_succ] at j0 j1 j2 j3 j4 j5
          by_cases t1 : bTo bj < 0
          · have t1' : ¬ (0 : Int) ≤ bTo bj := by omega
            have HNX : Hid (OwnL wo.heap.size W4 (.slice pn N cn) (nextJ (mayB l acts) m bs (j + 1))) := by
              unfold Hid
              rw [HNX1.out, stepJ, if_pos t1]
              exact HOW.out.below hW4
            have HB4 : Hid (Below wo.heap.size wo W4) := HBW.out.trans (hW4.mono HBW.out.size)
            clear m4 z4 hW4 his' hbw j0 j1 j3 j4 j5
            go_wp2
            go_roundw
            case rel => exact ⟨j + 1, _, by omega, by go_num, rfl, HB4, HNX⟩
            case measure => simp [intOf]; omega
          · obtain ⟨q, hq⟩ : ∃ q : Nat, bTo bj = (q : Int) := ⟨(bTo bj).toNat, by omega⟩
            have hqN : q < N := by have := HRBJ.out.hi; omega
            obtain ⟨g, rfl, hg1, hg2⟩ := HPN.out (by omega)
            have hnl : nx.length = N := HSN.out.right.len
            have hqn : q < nx.length := by omega
            obtain ⟨pq, cq, hcq, hlq⟩ := HOW.out.cell hqn
            have hgi : g < wi.heap.size := cell_lt hcq
            have hgW : g < W4.heap.size := Nat.lt_of_lt_of_le hgi hW4.size
            have hne : wi.heap.size ≠ g := by omega
            have rS : RightL l (lessL (mayB l acts) (allL m (bL bj) (bFrom bj)) (bFor bj)) := (HI.out.sound.right.all HRBJ.out.lab.1 _).less _ _
            have rZ : RightL l nx[q] := HSN.out.right.right _ (List.getElem_mem hqn)
            have lZ : nx[q].length ≤ 192 := HSN.out.few _ (List.getElem_mem hqn)
            have lS : (lessL (mayB l acts) (allL m (bL bj) (bFrom bj)) (bFor bj)).length ≤ 192 := less_few HL6.out (HI.out.sound.right.all HRBJ.out.lab.1 _) _ _
            have HKW : Hid (∀ W, Below W4.heap.size W4 W → Below w.heap.size w W) := fun W h => (hbw.trans (hW4.mono hbw.size)).trans (h.mono (hbw.trans (hW4.mono hbw.size)).size)
            have HKO : Hid (∀ W, Below W4.heap.size W4 W → Below wo.heap.size wo W) := fun W h => (HBW.out.trans (hW4.mono HBW.out.size)).trans (h.mono (HBW.out.trans (hW4.mono HBW.out.size)).size)
            have HKI : Hid (∀ W, Below W4.heap.size W4 W → Below wi.heap.size wi W) := fun W h => hW4.trans (h.mono hW4.size)
            have HBRG : Hid (∀ W, Below W4.heap.size W4 W → Calls Tryz.prog 57 #[.slice p1 acts.length c1, .slice ph N ch, .agg #[.slice pf (bFrom bj).length cf, .slice pl (bL bj).length cl, .int .i64 (bTo bj), .slice pi_ (bInto bj).length ci, .int .i64 bj.2.2.2.2.1, .slice po (bFor bj).length co]] W fun e w' =>
                ∃ py cy, e = .returned (.slice py (lessL (mayB l acts) (allL m (bL bj) (bFrom bj)) (bFor bj)).length cy) ∧ Lbl w' (lessL (mayB l acts) (allL m (bL bj) (bFrom bj)) (bFor bj)) (.slice py (lessL (mayB l acts) (allL m (bL bj) (bFrom bj)) (bFor bj)).length cy) ∧ Below W4.heap.size W4 w') := fun W h =>
              (brings_calls l acts m bj _ _ _ _ _ _ W (HU.out W (HKW.out W h)) (HI.out.labs.stays (keeps_of_below (HKO.out W h))) (his'.stays (keeps_of_below (HKI.out W h))) HC.out (by rw [HML.out]; exact HI.out.sound.right) (fun x hx => Nat.le_trans (HI.out.sound.few x hx) (by omega)) (by rw [HML.out]; exact HRBJ.out)).mono fun e w' ⟨y, e1, e2, e3⟩ => by
                have e2' := e2
                obtain ⟨p, c, rfl, _⟩ := e2'
                exact ⟨p, c, e1, e2, h.trans (e3.mono h.size)⟩
            have HSTEP : Hid (nextJ (mayB l acts) m bs (j + 1) = nx.set q (normL (mayB l acts) (nx[q] ++ lessL (mayB l acts) (allL m (bL bj) (bFrom bj)) (bFor bj)))) := by
              unfold Hid
              have hat : atL nx (bTo bj) = nx[q] := by unfold atL; rw [hq]; simp [hqn]
              rw [HNX1.out, stepJ, if_neg t1, hat, hq]
              rfl
            generalize lessL (mayB l acts) (allL m (bL bj) (bFrom bj)) (bFor bj) = S at *
            have HDONE : Hid (∀ W p n c, Below W4.heap.size W4 W → Lbl W (normL (mayB l acts) (nx[q] ++ S)) (.slice p n c) → Below wo.heap.size wo (W.setCell ⟨g, q, none⟩ (.slice p n c)) ∧ OwnL wo.heap.size (W.setCell ⟨g, q, none⟩ (.slice p n c)) (.slice (some ⟨g, 0, none⟩) N cn) (nextJ (mayB l acts) m bs (j + 1))) := fun W p n c h hx => by
              rw [HSTEP.out]
              exact ⟨(HKO.out W h).setCell hg1 _, (HOW.out.below (HKI.out W h)).set hnl hqn hx⟩
            have HCF : Hid (∀ W, Below W4.heap.size W4 W → W.cell? ⟨g, q, none⟩ = some (.slice pq nx[q].length cq) ∧ W.frozen? ⟨g, q, none⟩ = false ∧ Lbl W nx[q] (.slice pq nx[q].length cq)) := fun W h =>
              ⟨bkeptT (HKI.out W h) hcq, (HOW.out.below (HKI.out W h)).frozen hnl q, hlq.stays (keeps_of_below (HKI.out W h))⟩
            generalize nx[q] = Z at *
            have HCAT : Hid (∀ W p c, Below W4.heap.size W4 W → Lbl W S (.slice p S.length c) → Calls Tryz.prog 13 #[.slice (some ⟨W.heap.size, 0, none⟩) 2 2] (W.alloc (.cells #[.slice pq Z.length cq, .slice p S.length c] 25)) fun e w' =>
                ∃ p n c, e = .returned (.slice p n c) ∧ Lbl w' (Z ++ S) (.slice p n c) ∧ Below W4.heap.size W4 w') := fun W p c h hx => by
              obtain ⟨_, hWb, mm⟩ := boxes1 (rfl : W.alloc (.cells #[.slice pq Z.length cq, .slice p S.length c] 25) = _)
              have hb' := h.trans (hWb.mono h.size)
              refine (concatL_calls Z S _ _ _ _ _ ((HCF.out _ hb').2.2) (hx.stays (keeps_of_below hWb)) (mm 0) (mm 1) (by omega)).mono ?_
              rintro e w' ⟨y, rfl, hy, hby⟩
              have hy' := hy
              obtain ⟨p, c, rfl, _⟩ := hy'
              exact ⟨_, _, _, rfl, hy, hb'.trans (hby.mono hb'.size)⟩
            have HNORM : Hid (∀ W p n c, Below W4.heap.size W4 W → Lbl W (Z ++ S) (.slice p n c) → Calls Tryz.prog 12 #[.slice p1 acts.length c1, .slice p n c] W fun e w' =>
                ∃ p n c, e = .returned (.slice p n c) ∧ Lbl w' (normL (mayB l acts) (Z ++ S)) (.slice p n c) ∧ Below W4.heap.size W4 w') := fun W p n c h hx => by
              refine (refNormalR_calls HC.out (rZ.append rS) _ _ W (HU.out W (HKW.out W h)) hx (by rw [List.length_append]; omega)).mono ?_
              rintro e w' ⟨y, rfl, hy, hby⟩
              have hy' := hy
              obtain ⟨p, c, rfl, _⟩ := hy'
              exact ⟨_, _, _, rfl, hy, h.trans (hby.mono h.size)⟩
            have HX : Hid (∀ W, Below W4.heap.size W4 W → BoxIs W wi.heap.size (.slice pf (bFrom bj).length cf) (.slice pl (bL bj).length cl) (.int .i64 (bTo bj)) (.slice pi_ (bInto bj).length ci) (.int .i64 bj.2.2.2.2.1) (.slice po (bFor bj).length co)) := fun W h =>
              ⟨bkeptT h j0, bkeptT h j1, bkeptT h j2, bkeptT h j3, bkeptT h j4, bkeptT h j5⟩
            have HXS : Hid (∀ W v, Below W4.heap.size W4 W → BoxIs (W.setCell ⟨g, q, none⟩ v) wi.heap.size (.slice pf (bFrom bj).length cf) (.slice pl (bL bj).length cl) (.int .i64 (bTo bj)) (.slice pi_ (bInto bj).length ci) (.int .i64 bj.2.2.2.2.1) (.slice po (bFor bj).length co)) := fun W v h =>
              (HX.out W h).of_block (setCell_block _ (by simpa using hne))
            have z0 : Below W4.heap.size W4 W4.drew := (Below.refl _ _).drew
            have HZ0 := Lib.hid z0
            have s0 := HX.out _ z0
            obtain ⟨c0', f0', _⟩ := HCF.out _ z0
            have t1' : (0 : Int) ≤ (q : Int) := by omega
            have hqi : (q : Int) < (N : Int) := by omega
            rw [hq] at eW4 j2 k2 HBRG HX HXS s0
            clear m4 z4 hW4 his' hbw rS rZ lZ lS hcq hlq hgi hne hnl hqn hg1 hg2 hq z0
            go_wp2_with (fail)
            -- @HELD
            refine wp_region_noPanic ?_
            refine wp_region_held_drew (S := fun w' => w'.cell? ⟨wi.heap.size, 0, none⟩ = some (.slice pf (bFrom bj).length cf) ∧ w'.cell? ⟨wi.heap.size, 1, none⟩ = some (.slice pl (bL bj).length cl) ∧ w'.cell? ⟨wi.heap.size, 2, none⟩ = some (.int .i64 (q : Int)) ∧ w'.cell? ⟨wi.heap.size, 3, none⟩ = some (.slice pi_ (bInto bj).length ci) ∧ w'.cell? ⟨wi.heap.size, 4, none⟩ = some (.int .i64 bj.2.2.2.2.1) ∧ w'.cell? ⟨wi.heap.size, 5, none⟩ = some (.slice po (bFor bj).length co)) (by kernel_rfl) ?_ (fun hHeld => ?_)
            · exact s0
            refine wpAnyH_take (i := 0) (v := ?v0x1) rfl (by kernel_rfl) (by kernel_rfl) (by kernel_rfl) (fun _ _ _ h => h) (Or.inl ⟨by rfl, ?h0x1⟩) (by assumption) ?r0x1
            case h0x1 => (intro w hSw; (try dsimp only at hSw); first | (go_simp; done) | (go_simp; with_reducible rfl))
            try simp only [Act.put, List.setIfInBounds_toArray, List.set_cons_zero, List.set_cons_succ]
            refine wpAnyH_take (i := 1) (v := ?v1x2) rfl (by kernel_rfl) (by kernel_rfl) (by kernel_rfl) (fun _ _ _ h => h) (Or.inl ⟨by rfl, ?h1x2⟩) (by assumption) ?r1x2
            case h1x2 => (intro w hSw; (try dsimp only at hSw); first | (go_simp; done) | (go_simp; with_reducible rfl))
            try simp only [Act.put, List.setIfInBounds_toArray, List.set_cons_zero, List.set_cons_succ]
            refine wpAnyH_take (i := 2) (v := ?v2x3) rfl (by kernel_rfl) (by kernel_rfl) (by kernel_rfl) (fun _ _ _ h => h) (Or.inl ⟨by rfl, ?h2x3⟩) (by assumption) ?r2x3
            case h2x3 => (intro w hSw; (try dsimp only at hSw); first | (go_simp; done) | (go_simp; with_reducible rfl))
            try simp only [Act.put, List.setIfInBounds_toArray, List.set_cons_zero, List.set_cons_succ]
            refine wpAnyH_take (i := 3) (v := ?v3x4) rfl (by kernel_rfl) (by kernel_rfl) (by kernel_rfl) (fun _ _ _ h => h) (Or.inl ⟨by rfl, ?h3x4⟩) (by assumption) ?r3x4
            case h3x4 => (intro w hSw; (try dsimp only at hSw); first | (go_simp; done) | (go_simp; with_reducible rfl))
            try simp only [Act.put, List.setIfInBounds_toArray, List.set_cons_zero, List.set_cons_succ]
            refine wpAnyH_take (i := 4) (v := ?v4x5) rfl (by kernel_rfl) (by kernel_rfl) (by kernel_rfl) (fun _ _ _ h => h) (Or.inl ⟨by rfl, ?h4x5⟩) (by assumption) ?r4x5
            case h4x5 => (intro w hSw; (try dsimp only at hSw); first | (go_simp; done) | (go_simp; with_reducible rfl))
            try simp only [Act.put, List.setIfInBounds_toArray, List.set_cons_zero, List.set_cons_succ]
            refine wpAnyH_take (i := 5) (v := ?v5x6) rfl (by kernel_rfl) (by kernel_rfl) (by kernel_rfl) (fun _ _ _ h => h) (Or.inl ⟨by rfl, ?h5x6⟩) (by assumption) ?r5x6
            case h5x6 => (intro w hSw; (try dsimp only at hSw); first | (go_simp; done) | (go_simp; with_reducible rfl))
            try simp only [Act.put, List.setIfInBounds_toArray, List.set_cons_zero, List.set_cons_succ]
            refine wpAnyH_take (i := 6) (v := ?v6x7) rfl (by kernel_rfl) (by kernel_rfl) (by kernel_rfl) (fun _ _ _ h => h) (Or.inl ⟨by rfl, ?h6x7⟩) (by assumption) ?r6x7
            case h6x7 => (intro w hSw; (try dsimp only at hSw); first | (go_simp; done) | (go_simp; with_reducible rfl))
            try simp only [Act.put, List.setIfInBounds_toArray, List.set_cons_zero, List.set_cons_succ]
            refine wpAnyH_take (i := 7) (v := ?v7x8) rfl (by kernel_rfl) (by kernel_rfl) (by kernel_rfl) (fun _ _ _ h => h) (Or.inl ⟨by rfl, ?h7x8⟩) (by assumption) ?r7x8
            case h7x8 => (intro w hSw; (try dsimp only at hSw); first | (go_simp; done) | (go_simp; with_reducible rfl))
            try simp only [Act.put, List.setIfInBounds_toArray, List.set_cons_zero, List.set_cons_succ]
            refine wpAnyH_take (i := 9) (v := ?v9x9) rfl (by kernel_rfl) (by kernel_rfl) (by kernel_rfl) (fun _ _ _ h => h) (Or.inl ⟨by rfl, ?h9x9⟩) (by assumption) ?r9x9
            case h9x9 => (intro w hSw; (try dsimp only at hSw); first | (go_simp; done) | (go_simp; with_reducible rfl))
            try simp only [Act.put, List.setIfInBounds_toArray, List.set_cons_zero, List.set_cons_succ]
            refine wpAnyH_take (i := 10) (v := ?v10x10) rfl (by kernel_rfl) (by kernel_rfl) (by kernel_rfl) (fun _ _ _ h => h) (Or.inl ⟨by rfl, ?h10x10⟩) (by assumption) ?r10x10
            case h10x10 => (intro w hSw; (try dsimp only at hSw); first | (go_simp; done) | (go_simp; with_reducible rfl))
            try simp only [Act.put, List.setIfInBounds_toArray, List.set_cons_zero, List.set_cons_succ]
            refine wpAnyH_take (i := 11) (v := ?v11x11) rfl (by kernel_rfl) (by kernel_rfl) (by kernel_rfl) (fun _ _ _ h => h) (Or.inl ⟨by rfl, ?h11x11⟩) (by assumption) ?r11x11
            case h11x11 => (intro w hSw; (try dsimp only at hSw); first | (go_simp; done) | (go_simp; with_reducible rfl))
            try simp only [Act.put, List.setIfInBounds_toArray, List.set_cons_zero, List.set_cons_succ]
            refine wpAnyH_ready (rs := [8, 12]) (by kernel_rfl) (by simp) ?_
            refine AllReadyH.cons rfl (fun K hK => ?_) (AllReadyH.cons rfl (fun K hK => ?_) AllReadyH.nil)
            · skip
              go_simp
              refine hK.out _ _ ?_ (fun hHeld => ?_)
              · exact s0
              clear hK K
              try simp only [Act.put, List.setIfInBounds_toArray, List.set_cons_zero, List.set_cons_succ]
              refine wpAnyH_ready (rs := [12]) (by kernel_rfl) (by simp) ?_
              refine AllReadyH.cons rfl (fun K hK => ?_) AllReadyH.nil
              go_simp
              go_at_call 57
              refine (HBRG.out _ HZ0.out).mono ?_
              rintro e w5 ⟨py, cy, rfl, hy5, hb5⟩
              have s5 := HX.out _ hb5
              have s5a := fun o => HX.out _ (hb5.alloc hb5.size o)
              obtain ⟨c5', f5', _⟩ := HCF.out _ hb5
              go_wp2_with fail
              refine hK.out _ _ ?_ (fun hHeld => ?_)
              · exact s5
              clear hK K
              try simp only [Act.put, List.setIfInBounds_toArray, List.set_cons_zero, List.set_cons_succ]
              refine wpAnyH_ready (rs := [13]) (by kernel_rfl) (by simp) ?_
              refine AllReadyH.cons rfl (fun K hK => ?_) AllReadyH.nil
              go_simp
              refine hK.out _ _ ?_ (fun hHeld => ?_)
              · exact s5a _
              clear hK K
              try simp only [Act.put, List.setIfInBounds_toArray, List.set_cons_zero, List.set_cons_succ]
              refine wpAnyH_ready (rs := [14]) (by kernel_rfl) (by simp) ?_
              refine AllReadyH.cons rfl (fun K hK => ?_) AllReadyH.nil
              go_simp
              go_at_call 13
              refine (HCAT.out _ _ _ hb5 hy5).mono ?_
              rintro e w6 ⟨p6, n6, c6, rfl, hy6, hb6⟩
              have s6 := HX.out _ hb6
              go_wp2_with fail
              refine hK.out _ _ ?_ (fun hHeld => ?_)
              · exact s6
              clear hK K
              try simp only [Act.put, List.setIfInBounds_toArray, List.set_cons_zero, List.set_cons_succ]
              refine wpAnyH_ready (rs := [15]) (by kernel_rfl) (by simp) ?_
              refine AllReadyH.cons rfl (fun K hK => ?_) AllReadyH.nil
              go_simp
              go_at_call 12
              refine (HNORM.out _ _ _ _ hb6 hy6).mono ?_
              rintro e w7 ⟨p7, n7, c7, rfl, hy7, hb7⟩
              have s7 := fun v => HXS.out _ v hb7
              have s6 := HX.out _ hb7
              obtain ⟨c7', f7', _⟩ := HCF.out _ hb7
              go_wp2_with fail
              refine hK.out _ _ ?_ (fun hHeld => ?_)
              · exact s6
              clear hK K
              try simp only [Act.put, List.setIfInBounds_toArray, List.set_cons_zero, List.set_cons_succ]
              refine wpAnyH_take (i := 16) (v := ?v16x12) rfl (by kernel_rfl) (by kernel_rfl) (by kernel_rfl) (fun _ _ _ h => h) (Or.inl ⟨by rfl, ?h16x12⟩) (by assumption) ?r16x12
              case h16x12 => (intro w hSw; (try dsimp only at hSw); first | (go_simp; done) | (go_simp; with_reducible rfl))
              try simp only [Act.put, List.setIfInBounds_toArray, List.set_cons_zero, List.set_cons_succ]
              refine wpAnyH_ready (rs := [17]) (by kernel_rfl) (by simp) ?_
              refine AllReadyH.cons rfl (fun K hK => ?_) AllReadyH.nil
              go_simp
              refine hK.out _ _ ?_ (fun hHeld => ?_)
              · exact s7 _
              clear hK K
              try simp only [Act.put, List.setIfInBounds_toArray, List.set_cons_zero, List.set_cons_succ]
              refine wpAnyH_done (by kernel_rfl) ?_ _
              refine NoPanic.normal ?_
              have HD := HDONE.out _ _ _ _ hb7 hy7
              have HD1 := Lib.hid HD.1
              have HD2 := Lib.hid HD.2
              clear HD
              go_wp2_with fail
              go_roundw
              case rel => exact ⟨j + 1, _, by omega, by go_num, rfl, HD1, HD2⟩
              case measure => simp [intOf]; omega
            · skip
              go_simp
              go_at_call 57
              refine (HBRG.out _ HZ0.out).mono ?_
              rintro e w5 ⟨py, cy, rfl, hy5, hb5⟩
              have s5 := HX.out _ hb5
              have s5a := fun o => HX.out _ (hb5.alloc hb5.size o)
              obtain ⟨c5', f5', _⟩ := HCF.out _ hb5
              go_wp2_with fail
              refine hK.out _ _ ?_ (fun hHeld => ?_)
              · exact s5
              clear hK K
              try simp only [Act.put, List.setIfInBounds_toArray, List.set_cons_zero, List.set_cons_succ]
              refine wpAnyH_ready (rs := [8]) (by kernel_rfl) (by simp) ?_
              refine AllReadyH.cons rfl (fun K hK => ?_) AllReadyH.nil
              go_simp
              refine hK.out _ _ ?_ (fun hHeld => ?_)
              · exact s5
              clear hK K
              try simp only [Act.put, List.setIfInBounds_toArray, List.set_cons_zero, List.set_cons_succ]
              refine wpAnyH_ready (rs := [13]) (by kernel_rfl) (by simp) ?_
              refine AllReadyH.cons rfl (fun K hK => ?_) AllReadyH.nil
              go_simp
              refine hK.out _ _ ?_ (fun hHeld => ?_)
              · exact s5a _
              clear hK K
              try simp only [Act.put, List.setIfInBounds_toArray, List.set_cons_zero, List.set_cons_succ]
              refine wpAnyH_ready (rs := [14]) (by kernel_rfl) (by simp) ?_
              refine AllReadyH.cons rfl (fun K hK => ?_) AllReadyH.nil
              go_simp
              go_at_call 13
              refine (HCAT.out _ _ _ hb5 hy5).mono ?_
              rintro e w6 ⟨p6, n6, c6, rfl, hy6, hb6⟩
              have s6 := HX.out _ hb6
              go_wp2_with fail
              refine hK.out _ _ ?_ (fun hHeld => ?_)
              · exact s6
              clear hK K
              try simp only [Act.put, List.setIfInBounds_toArray, List.set_cons_zero, List.set_cons_succ]
              refine wpAnyH_ready (rs := [15]) (by kernel_rfl) (by simp) ?_
              refine AllReadyH.cons rfl (fun K hK => ?_) AllReadyH.nil
              go_simp
              go_at_call 12
              refine (HNORM.out _ _ _ _ hb6 hy6).mono ?_
              rintro e w7 ⟨p7, n7, c7, rfl, hy7, hb7⟩
              have s7 := fun v => HXS.out _ v hb7
              have s6 := HX.out _ hb7
              obtain ⟨c7', f7', _⟩ := HCF.out _ hb7
              go_wp2_with fail
              refine hK.out _ _ ?_ (fun hHeld => ?_)
              · exact s6
              clear hK K
              try simp only [Act.put, List.setIfInBounds_toArray, List.set_cons_zero, List.set_cons_succ]
              refine wpAnyH_take (i := 16) (v := ?v16x13) rfl (by kernel_rfl) (by kernel_rfl) (by kernel_rfl) (fun _ _ _ h => h) (Or.inl ⟨by rfl, ?h16x13⟩) (by assumption) ?r16x13
              case h16x13 => (intro w hSw; (try dsimp only at hSw); first | (go_simp; done) | (go_simp; with_reducible rfl))
              try simp only [Act.put, List.setIfInBounds_toArray, List.set_cons_zero, List.set_cons_succ]
              refine wpAnyH_ready (rs := [17]) (by kernel_rfl) (by simp) ?_
              refine AllReadyH.cons rfl (fun K hK => ?_) AllReadyH.nil
              go_simp
              refine hK.out _ _ ?_ (fun hHeld => ?_)
              · exact s7 _
              clear hK K
              try simp only [Act.put, List.setIfInBounds_toArray, List.set_cons_zero, List.set_cons_succ]
              refine wpAnyH_done (by kernel_rfl) ?_ _
              refine NoPanic.normal ?_
              have HD := HDONE.out _ _ _ _ hb7 hy7
              have HD1 := Lib.hid HD.1
              have HD2 := Lib.hid HD.2
              clear HD
              go_wp2_with fail
              go_roundw
              case rel => exact ⟨j + 1, _, by omega, by go_num, rfl, HD1, HD2⟩
              case measure => simp [intOf]; omega
            -- @HELDEND
        · obtain rfl : j = bs.length := by omega
          obtain ⟨hsn, _, _⟩ := HI.out.sound.nextJ HL6.out HRB.out bs.length (Nat.le_refl _)
          have hnl : (nxAll (mayB l acts) m bs).length = N := hsn.right.len
          have hlabs : Labs wi (nxAll (mayB l acts) m bs) (.slice pn N cn) := OwnL.labs HOW.out (by have := HN4.out; have h2 : (nextJ (mayB l acts) m bs bs.length).length = N := hnl; omega)
          have HLB := Lib.hid hlabs
          obtain ⟨bx, ox, px, cx, he, hlx, hcx, hpx, hcellx⟩ := hlabs.open' hnl
          obtain ⟨rfl, rfl⟩ : pn = px ∧ cn = cx := by simp at he; exact he
          have HMORE : Hid (∀ W, Below wi.heap.size wi W → moreTo (mayB l acts) (nxAll (mayB l acts) m bs) m N = true → OInv l acts bs N w W (.slice pn N cn) true (nxAll (mayB l acts) m bs) (gk - 1) ∧ gk - 1 < gk) := fun W h hm =>
            HI.out.more HL6.out HRB.out hm (HBW.out.trans (h.mono HBW.out.size)) (HLB.out.stays (keeps_of_below h))
          have HSTILL : Hid (∀ W, Below wi.heap.size wi W → moreTo (mayB l acts) (nxAll (mayB l acts) m bs) m N = false → OInv l acts bs N w W (.slice ph N ch) false m (gk - 1) ∧ gk - 1 < gk) := fun W h hm =>
            HI.out.still HL6.out HRB.out hm (HBW.out.trans (h.mono HBW.out.size))
          have HMS : Hid (∀ k, moreTo (mayB l acts) (nxAll (mayB l acts) m bs) m (k + 1) = (moreTo (mayB l acts) (nxAll (mayB l acts) m bs) m k || !flowsB (mayB l acts) (((nxAll (mayB l acts) m bs)[k]?).getD []) ((m[k]?).getD []))) := fun k => moreTo_succ _ _ _ k
          have HM0 : Hid (moreTo (mayB l acts) (nxAll (mayB l acts) m bs) m 0 = false) := rfl
          have HSNR : Hid (∀ x ∈ nxAll (mayB l acts) m bs, RightL l x) := hsn.right.right
          generalize nxAll (mayB l acts) m bs = nx at *
          have HHC : Hid (∀ k, k < N → ∃ p n c, wi.cell? ⟨bh, oh + k, none⟩ = some (.slice p n c) ∧ Lbl wi ((m[k]?).getD []) (.slice p n c) ∧ RightL l ((m[k]?).getD [])) := fun k hk => by
            have hk' : k < m.length := by rw [HML.out]; exact hk
            obtain ⟨u, e1, e2⟩ := HCELLH.out k hk'
            have e3 := e2
            obtain ⟨p, c, rfl, _⟩ := e3
            rw [List.getElem?_eq_getElem hk']
            exact ⟨_, _, _, bkeptT HBW.out e1, e2.stays (keeps_of_below HBW.out), HI.out.sound.right.right _ (List.getElem_mem hk')⟩
          have HXC : Hid (∀ k, k < N → ∃ p n c, wi.cell? ⟨bx, ox + k, none⟩ = some (.slice p n c) ∧ Lbl wi ((nx[k]?).getD []) (.slice p n c) ∧ RightL l ((nx[k]?).getD [])) := fun k hk => by
            have hk' : k < nx.length := by rw [hnl]; exact hk
            obtain ⟨u, e1, e2⟩ := hcellx k hk'
            have e3 := e2
            obtain ⟨p, c, rfl, _⟩ := e3
            rw [List.getElem?_eq_getElem hk']
            exact ⟨_, _, _, e1, e2, HSNR.out _ (List.getElem_mem hk')⟩
          have HPX := Lib.hid hpx
          have HNL := Lib.hid hnl
          have HKU : Hid (∀ W, Below wi.heap.size wi W → Prs W acts (.slice p1 acts.length c1)) := fun W h => HU.out W (HI.out.below.trans ((HBW.out.trans (h.mono HBW.out.size)).mono HI.out.below.size))
          clear hsn hnl hlx hcx hpx hcellx he
          go_wp2
          go_loopw [8, 47] (fun ag i ws => ∃ (k : Nat) (wl : World), k ≤ N ∧ ag = .bool (moreTo (mayB l acts) nx m k) ∧ i = .int .i64 k ∧ wl = ws ∧ Hid (Below wi.heap.size wi wl)) (fun _ i _ => N - (intOf i).toNat)
          case atStart => exact ⟨0, _, Nat.zero_le _, by rw [HM0.out], rfl, rfl, Below.refl _ _⟩
          case round =>
            obtain ⟨k, wl, hk, rfl, rfl, rfl, HBL⟩ := hrel
            by_cases hlk : k < N
            · obtain ⟨p8, n8, c8, e81, e82, e83⟩ := HXC.out k hlk
              obtain ⟨p9, n9, c9, e91, e92, e93⟩ := HHC.out k hlk
              obtain rfl := HPX.out (by omega)
              obtain rfl := HPH.out (by omega)
              have s8 := bkeptT HBL.out e81
              have s9 := bkeptT HBL.out e91
              have hstep := HMS.out k
              generalize ((nx[k]?).getD []) = X at *
              generalize ((m[k]?).getD []) = Y at *
              have HMG : Hid (∀ W, Below wi.heap.size wi W → Calls Tryz.prog 25 #[.slice p1 acts.length c1, .slice p8 n8 c8, .slice p9 n9 c9] W fun e w' => e = .returned (.bool (flowsB (mayB l acts) X Y)) ∧ Below wi.heap.size wi w') := fun W h => by
                have := refMay_calls acts X Y _ _ _ W (HKU.out W h) (e82.stays (keeps_of_below h)) (e92.stays (keeps_of_below h)) HN10.out (fun x hx => (e83 x hx).1)
                rw [← flows_acts HC.out e83 e93] at this
                exact this.mono fun e w' ⟨h1, h2⟩ => ⟨h1, h.trans (h2.mono h.size)⟩
              have HSTEP := Lib.hid hstep
              have HS8 : Hid (∀ W, Below wi.heap.size wi W → W.cell? ⟨bx, ox + k, none⟩ = some (.slice p8 n8 c8) ∧ W.cell? ⟨bh, oh + k, none⟩ = some (.slice p9 n9 c9)) := fun W h => ⟨bkeptT h e81, bkeptT h e91⟩
              have hkN : (k : Int) < (N : Int) := by omega
              have hk0 : (0 : Int) ≤ (k : Int) := by omega
              have HLK := Lib.hid hlk
              clear e81 e82 e83 e91 e92 e93 hstep
              cases hmo : moreTo (mayB l acts) nx m k with
              | true =>
                have HN1 : Hid (moreTo (mayB l acts) nx m (k + 1) = true) := by unfold Hid; rw [HSTEP.out, hmo]; rfl
                clear hmo s8 s9
                go_wp2_with (fail)
                go_quiet (fail)
                go_wp2_with (fail)
                go_roundw
                case rel => exact ⟨k + 1, _, by have := HLK.out; omega, by rw [HN1.out], by go_num, rfl, below_drewN HBL.out _⟩
                case measure => have := HLK.out; simp [intOf]; omega
              | false =>
                have HN1 : Hid (moreTo (mayB l acts) nx m (k + 1) = !flowsB (mayB l acts) X Y) := by unfold Hid; rw [HSTEP.out, hmo]; rfl
                clear hmo
                have z8 := HS8.out _ HBL.out.drew
                go_wp2_with (fail)
                go_region_held3 (fun w' => w'.cell? ⟨bx, ox + k, none⟩ = some (.slice p8 n8 c8) ∧ w'.cell? ⟨bh, oh + k, none⟩ = some (.slice p9 n9 c9))
                  (first | exact z8 | exact z9)
                  (first
                    | (go_at_call 25
                       with_reducible refine (HMG.out _ HBL.out.drew).mono ?_
                       rintro e w9 ⟨rfl, hb9⟩
                       have z9 := HS8.out _ hb9)
                    | (go_at_call 25
                       with_reducible refine (HMG.out _ HBL.out).mono ?_
                       rintro e w9 ⟨rfl, hb9⟩
                       have z9 := HS8.out _ hb9))
                all_goals (
                  have HB9 := Lib.hid hb9
                  clear hb9
                  go_wp2_with (fail)
                  go_roundw)
                all_goals first
                  | exact ⟨k + 1, _, by have := HLK.out; omega, by rw [HN1.out], by go_num, rfl, HB9⟩
                  | (have := HLK.out; simp [intOf]; omega)
            · obtain rfl : k = N := by omega
              cases hmo : moreTo (mayB l acts) nx m k with
              | true =>
                have HO := Lib.hid (HMORE.out _ HBL.out hmo)
                clear hmo
                go_wp2
                go_roundg (gk - 1)
                case measure => exact HO.out.2
                case rel => exact ⟨true, _, _, rfl, rfl, HO.out.1⟩
              | false =>
                have HO := Lib.hid (HSTILL.out _ HBL.out hmo)
                clear hmo
                go_wp2
                go_roundg (gk - 1)
                case measure => exact HO.out.2
                case rel => exact ⟨false, _, _, rfl, rfl, HO.out.1⟩
end Go.Proofs.YtcgihpfanfbonaaGreatDoor
