/-
  chief.Acts and chief.For: who acts for whom.
-/
import Derived.Test.YtfbieagkhbmgjaaDoorClosure
namespace Go.Proofs.YtfbieagkhbmgjaaDoor
open Go.RowKit
set_option linter.unusedVariables false
set_option linter.unusedSimpArgs false

/-- What a call owns, as data. -/
theorem SliceOf.of_owns {α : Type} {E : Enc α} {k : Nat} {w : World} {l : List α} {base : Nat} {e : TypeId} {v : Value} {xs : List Value} (h : w.ownsRow base e k v l.length xs)
    (hE : ∀ i (hi : i < l.length), ∃ vs, E w l[i] vs ∧ vs.length = k ∧ ∀ j x, vs[j]? = some x → xs[i * k + j]? = some x) : SliceOf E k w l v := by
  obtain ⟨hl, h⟩ := h
  rcases h with ⟨rfl, hn⟩ | ⟨g, cap, cur, rfl, _, hh, h1, h2, h3, h4⟩
  · exact ⟨none, 0, by rw [hn], by omega, by unfold maxLen; omega, Or.inl (List.length_eq_zero_iff.1 hn)⟩
  · refine ⟨_, cap, rfl, h1, h2, Or.inr ⟨g, 0, rfl, fun i hi => ?_⟩⟩
    obtain ⟨vs, e1, e2, e3⟩ := hE i hi
    refine ⟨vs, e1, e2, fun j x hx => ?_⟩
    have := e3 j x hx
    rw [← h4, List.getElem?_take] at this
    split at this
    · simpa [World.cell?, hh] using this
    · cases this
theorem Strs.of_owns {w : World} {l : List Txt} {base : Nat} {e : TypeId} {v : Value} (h : w.ownsRow base e 1 v l.length (l.map Value.string)) : Strs w l v :=
  SliceOf.of_owns h fun i hi => ⟨_, rfl, rfl, fun j x hx => by
    match j, hx with
    | 0, hx =>
      simp at hx
      subst hx
      simp [hi]⟩

theorem checkC_zero {l : List Txt} {acts : List (Txt × Txt)} (h : checkC l acts = 0) : l.length ≤ 6 ∧ acts.length ≤ 10 ∧ errNames l = 0 ∧ ∀ j (hj : j < acts.length), actOk l acts[j] = true := by
  unfold checkC at h
  split at h
  · omega
  · split at h
    · omega
    · split at h
      · rename_i h1 h2 h3
        rw [List.all_eq_true] at h3
        exact ⟨by omega, by omega, by omega, fun j hj => h3 _ (List.getElem_mem hj)⟩
      · omega
theorem idxOf_hasnt {l : List Txt} {x : Txt} (h : has l x = false) : idxOf l x = -1 := idxOf_miss fun j hj e => by
  have : has l x = true := has_iff.2 (List.mem_of_getElem? e)
  rw [h] at this; cases this

/-- Does one act for another one? Of right chiefs. -/
def actM (l : List Txt) (acts : List (Txt × Txt)) (a b : Txt) : Bool := closM l acts (idxOf l a).toNat (idxOf l b).toNat
def actsE (l : List Txt) (acts : List (Txt × Txt)) (a b : Txt) : Int := if checkC l acts ≠ 0 then checkC l acts else if has l a && has l b then 0 else 5
def actsB (l : List Txt) (acts : List (Txt × Txt)) (a b : Txt) : Bool := actsE l acts a b == 0 && actM l acts a b

theorem acts_bad {l : List Txt} {acts : List (Txt × Txt)} {a b : Txt} (h : checkC l acts ≠ 0) : actsE l acts a b = checkC l acts ∧ actsB l acts a b = false := by
  have : actsE l acts a b = checkC l acts := by unfold actsE; rw [if_pos h]
  refine ⟨this, ?_⟩
  unfold actsB; rw [this]; simp [h]
theorem acts_who {l : List Txt} {acts : List (Txt × Txt)} {a b : Txt} (h : checkC l acts = 0) (hw : (has l a && has l b) = false) : actsE l acts a b = 5 ∧ actsB l acts a b = false := by
  have : actsE l acts a b = 5 := by unfold actsE; rw [if_neg (by omega), hw]; rfl
  refine ⟨this, ?_⟩
  unfold actsB; rw [this]; rfl
theorem acts_ok {l : List Txt} {acts : List (Txt × Txt)} {a b : Txt} (h : checkC l acts = 0) (ha : has l a = true) (hb : has l b = true) : actsE l acts a b = 0 ∧ actsB l acts a b = actM l acts a b := by
  have : actsE l acts a b = 0 := by unfold actsE; rw [if_neg (by omega), ha, hb]; rfl
  refine ⟨this, ?_⟩
  unfold actsB; rw [this]; rfl

set_option maxHeartbeats 1000000 in
theorem acts_calls (l : List Txt) (acts : List (Txt × Txt)) (a b : Txt) (v u : Value) (w : World) (hv : Strs w l v) (hu : Prs w acts u) :
    Calls Tryd.prog 16 #[v, u, .string a, .string b] w fun e w' => e = .returned (.tuple #[.bool (actsB l acts a b), .int .i64 (actsE l acts a b)]) ∧ Below w.heap.size w w' := by
  have hv0 := hv
  have hu0 := hu
  by_cases hc : checkC l acts = 0
  · obtain ⟨z1, z2, _, z4⟩ := checkC_zero hc
    have hc' : (checkC l acts == 0) = true := by simpa using hc
    have hc2 : (checkC l acts != 0) = false := by simpa using hc
    cases ha : has l a with
    | true =>
      cases hb : has l b with
      | true =>
        obtain ⟨e1, e2⟩ := acts_ok hc ha hb
        rw [e1, e2]
        clear e1 e2
        obtain ⟨i, i1, i2, _⟩ := idxOf_has ha
        obtain ⟨k, k1, k2, _⟩ := idxOf_has hb
        have HM : Hid (actM l acts a b = closM l acts i k) := by show actM l acts a b = _; unfold actM; rw [i1, k1]; rfl
        have hI1 : ∀ w', Below w.heap.size w w' → Calls Tryd.prog 43 #[v, .string a] w' fun e w'' => e = .returned (.int .i64 i) ∧ w'' = w' := fun w' hb' => by
          rw [← i1]; exact (index_calls l _ _ _ (hv0.stays (keeps_of_below hb'))).mono fun _ _ h => ⟨h.1, h.2.symm⟩
        have hI2 : ∀ w', Below w.heap.size w w' → Calls Tryd.prog 43 #[v, .string b] w' fun e w'' => e = .returned (.int .i64 k) ∧ w'' = w' := fun w' hb' => by
          rw [← k1]; exact (index_calls l _ _ _ (hv0.stays (keeps_of_below hb'))).mono fun _ _ h => ⟨h.1, h.2.symm⟩
        have HI1 := Lib.hid hI1
        have HI2 := Lib.hid hI2
        have HC := Lib.hid hc
        have HZ := Lib.hid z4
        clear hI1 hI2 i1 k1 ha hb hc z4
        go_enter Tryd.func16, Tryd.ntmps16
        go_wp2_with (go_at_call 18; refine (check_calls l acts _ _ _ hv hu).mono ?_; rintro e w1 ⟨rfl, hb1⟩)
        refine (HI1.out _ hb1).mono ?_
        rintro e w2 ⟨rfl, rfl⟩
        go_wp2_with (fail)
        refine (HI2.out _ hb1).mono ?_
        rintro e w3 ⟨rfl, rfl⟩
        go_wp2_with (fail)
        refine (closure_calls l acts _ _ _ (hv0.stays (keeps_of_below hb1)) (hu0.stays (keeps_of_below hb1)) z1 z2 HZ.out).mono ?_
        rintro e w4 ⟨rfl, hM, hb4⟩
        have hr := hM.row i2
        have hce := hM.cell i2 k2
        go_wp2
        go_ret2
        exact ⟨by rw [HM.out]; rfl, hb1.trans (hb4.mono hb1.size)⟩
      | false =>
        obtain ⟨e1, e2⟩ := acts_who hc (by rw [ha, hb]; rfl : (has l a && has l b) = false)
        rw [e1, e2]
        obtain ⟨i, i1, i2, _⟩ := idxOf_has ha
        have k1 := idxOf_hasnt hb
        have hI1 : ∀ w', Below w.heap.size w w' → Calls Tryd.prog 43 #[v, .string a] w' fun e w'' => e = .returned (.int .i64 i) ∧ w'' = w' := fun w' hb' => by
          rw [← i1]; exact (index_calls l _ _ _ (hv0.stays (keeps_of_below hb'))).mono fun _ _ h => ⟨h.1, h.2.symm⟩
        have hI2 : ∀ w', Below w.heap.size w w' → Calls Tryd.prog 43 #[v, .string b] w' fun e w'' => e = .returned (.int .i64 (-1)) ∧ w'' = w' := fun w' hb' => by
          rw [← k1]; exact (index_calls l _ _ _ (hv0.stays (keeps_of_below hb'))).mono fun _ _ h => ⟨h.1, h.2.symm⟩
        have HI1 := Lib.hid hI1
        have HI2 := Lib.hid hI2
        clear hI1 hI2 i1 k1 ha hb hc z4 e1 e2
        go_enter Tryd.func16, Tryd.ntmps16
        go_wp2_with (go_at_call 18; refine (check_calls l acts _ _ _ hv hu).mono ?_; rintro e w1 ⟨rfl, hb1⟩)
        refine (HI1.out _ hb1).mono ?_
        rintro e w2 ⟨rfl, rfl⟩
        go_wp2_with (fail)
        refine (HI2.out _ hb1).mono ?_
        rintro e w3 ⟨rfl, rfl⟩
        go_wp2
        go_ret2
        exact ⟨rfl, hb1⟩
    | false =>
      obtain ⟨e1, e2⟩ := acts_who hc (by rw [ha]; rfl : (has l a && has l b) = false)
      rw [e1, e2]
      have i1 := idxOf_hasnt ha
      have hI1 : ∀ w', Below w.heap.size w w' → Calls Tryd.prog 43 #[v, .string a] w' fun e w'' => e = .returned (.int .i64 (-1)) ∧ w'' = w' := fun w' hb' => by
        rw [← i1]; exact (index_calls l _ _ _ (hv0.stays (keeps_of_below hb'))).mono fun _ _ h => ⟨h.1, h.2.symm⟩
      have HI1 := Lib.hid hI1
      clear hI1 i1 ha hc z4 e1 e2
      go_enter Tryd.func16, Tryd.ntmps16
      go_wp2_with (go_at_call 18; refine (check_calls l acts _ _ _ hv hu).mono ?_; rintro e w1 ⟨rfl, hb1⟩)
      refine (HI1.out _ hb1).mono ?_
      rintro e w2 ⟨rfl, rfl⟩
      go_wp2_with (fail)
      refine (index_calls l b _ _ (hv0.stays (keeps_of_below hb1))).mono ?_
      rintro e w3 ⟨rfl, rfl⟩
      go_wp2
      go_ret2
      exact ⟨rfl, hb1⟩
  · obtain ⟨e1, e2⟩ := acts_bad (a := a) (b := b) hc
    rw [e1, e2]
    have hc' : (checkC l acts == 0) = false := by simpa using hc
    have hc2 : (checkC l acts != 0) = true := by simpa using hc
    clear e1 e2
    go_enter Tryd.func16, Tryd.ntmps16
    go_wp2_with (go_at_call 18; refine (check_calls l acts _ _ _ hv hu).mono ?_; rintro e w1 ⟨rfl, hb1⟩)
    go_ret2
    exact ⟨rfl, hb1⟩

theorem Tryd.info_string : (Tryd.prog.info? 9).map (fun i => (i.zero, i.size, i.bytes)) = some (some (.string ByteArray.empty), 1, 16) := by kernel_rfl

/-- All that act for one. -/
def forL (l : List Txt) (acts : List (Txt × Txt)) (b : Txt) : List Txt := l.filter fun s => actM l acts s b
def forE (l : List Txt) (acts : List (Txt × Txt)) (b : Txt) : Int := if checkC l acts ≠ 0 then checkC l acts else if has l b then 0 else 5
def forR (l : List Txt) (acts : List (Txt × Txt)) (b : Txt) : List Txt := if forE l acts b = 0 then forL l acts b else []

theorem idxOf_at {l : List Txt} (h : errNames l = 0) {i : Nat} (hi : i < l.length) : idxOf l l[i] = i := by
  refine idxOf_hit hi rfl fun j hj => ?_
  rw [List.getElem?_eq_getElem (by omega)]
  intro e
  have e' : l[j] = l[i] := by simpa using e
  have hh : nameErr l i = 0 := by
    apply Decidable.byContradiction
    intro hne
    unfold errNames at h
    cases hf : (List.range l.length).find? (fun i => nameErr l i != 0) with
    | none =>
      rw [List.find?_range_eq_none] at hf
      have := hf i hi
      simp at this
      exact hne this
    | some m =>
      rw [hf] at h
      have := List.find?_some hf
      have h' : nameErr l m = 0 := h
      simp [h'] at this
  unfold nameErr at hh
  rw [getD_at hi] at hh
  split at hh
  · split at hh
    · omega
    · rename_i _ hn
      apply hn
      rw [has_iff]
      exact e' ▸ List.mem_take_iff_getElem.2 ⟨j, by omega, rfl⟩
  · omega

theorem Mat.below {w w' : World} {N n k : Nat} {X : Nat → Nat → Bool} (h : Mat w N n k X) (hb : Below w.heap.size w w') : Mat w' N n k X :=
  ⟨Nat.le_trans h.size hb.size, h.top.of_block (hb.block _ (by have := h.size; omega)), fun j hj => (h.rows j hj).of_block (hb.block _ (by have := h.size; omega))⟩

def forTo (l : List Txt) (acts : List (Txt × Txt)) (b : Txt) (k : Nat) : List Txt := (l.take k).filter fun s => actM l acts s b
theorem forTo_hit {l : List Txt} {acts : List (Txt × Txt)} {b : Txt} {k : Nat} (hk : k < l.length) (h : actM l acts l[k] b = true) : forTo l acts b (k + 1) = forTo l acts b k ++ [l[k]] := by
  unfold forTo; rw [List.take_succ_eq_append_getElem hk, List.filter_append]; simp [h]
theorem forTo_miss {l : List Txt} {acts : List (Txt × Txt)} {b : Txt} {k : Nat} (hk : k < l.length) (h : actM l acts l[k] b = false) : forTo l acts b (k + 1) = forTo l acts b k := by
  unfold forTo; rw [List.take_succ_eq_append_getElem hk, List.filter_append]; simp [h]
theorem forTo_le (l : List Txt) (acts : List (Txt × Txt)) (b : Txt) (k : Nat) : (forTo l acts b k).length ≤ k := by
  unfold forTo; exact Nat.le_trans (List.length_filter_le _ _) (List.length_take_le _ _)

set_option maxHeartbeats 1000000 in
set_option maxRecDepth 100000 in
theorem for_calls (l : List Txt) (acts : List (Txt × Txt)) (b : Txt) (v u : Value) (w : World) (hv : Strs w l v) (hu : Prs w acts u) :
    Calls Tryd.prog 17 #[v, u, .string b] w fun e w' => ∃ x, e = .returned (.tuple #[x, .int .i64 (forE l acts b)]) ∧ Strs w' (forR l acts b) x ∧ Below w.heap.size w w' := by
  have hv0 := hv
  have hu0 := hu
  by_cases hc : checkC l acts = 0
  · obtain ⟨z1, z2, z3, z4⟩ := checkC_zero hc
    have hc' : (checkC l acts == 0) = true := by simpa using hc
    have hc2 : (checkC l acts != 0) = false := by simpa using hc
    cases hb : has l b with
    | true =>
      have e1 : forE l acts b = 0 := by unfold forE; rw [if_neg (by omega), hb]; rfl
      have e2 : forR l acts b = forTo l acts b l.length := by unfold forR forTo forL; rw [if_pos e1, List.take_length]
      rw [e1, e2]
      obtain ⟨ib, k1, k2, _⟩ := idxOf_has hb
      have HA : Hid (∀ i (hi : i < l.length), actM l acts l[i] b = closM l acts i ib) := fun i hi => by unfold actM; rw [idxOf_at z3 hi, k1]; rfl
      have hI2 : ∀ w', Below w.heap.size w w' → Calls Tryd.prog 43 #[v, .string b] w' fun e w'' => e = .returned (.int .i64 ib) ∧ w'' = w' := fun w' hb' => by
        rw [← k1]; exact (index_calls l _ _ _ (hv0.stays (keeps_of_below hb'))).mono fun _ _ h => ⟨h.1, h.2.symm⟩
      have HI2 := Lib.hid hI2
      have HZ := Lib.hid z4
      clear hI2 k1 hb hc z3 z4 e1 e2
      obtain ⟨b0, o, c, p, rfl, hlc, hcm, hp, hcells⟩ := hv.cells
      obtain ⟨t0, hi, hz0, hz1, hz2⟩ := info_parts Tryd.info_string
      clear hv
      go_enter Tryd.func17, Tryd.ntmps17
      go_wp2_with (go_at_call 18; refine (check_calls l acts _ _ _ hv0 hu).mono ?_; rintro e w1 ⟨rfl, hb1⟩)
      refine (HI2.out _ hb1).mono ?_
      rintro e w3 ⟨rfl, rfl⟩
      go_wp2_with (fail)
      refine (closure_calls l acts _ _ _ (hv0.stays (keeps_of_below hb1)) (hu0.stays (keeps_of_below hb1)) z1 z2 HZ.out).mono ?_
      rintro e w4 ⟨rfl, hM, hb4⟩
      go_wp2
      go_loopw [11, 12, 13, 30] (fun x _ _ i wr => ∃ k : Nat, k ≤ l.length ∧ i = .int .i64 k ∧ Below w4.heap.size w4 wr ∧ wr.ownsRow w4.heap.size 9 1 x (forTo l acts b k).length ((forTo l acts b k).map Value.string)) (fun _ _ _ i _ => l.length - (intOf i).toNat)
      case atStart => exact ⟨0, Nat.zero_le _, rfl, Below.refl _ _, World.ownsRow_nil _ _ _ _⟩
      case round =>
        obtain ⟨k, hk, rfl, hbr, hown⟩ := hrel
        have hbw : Below w.heap.size w wr := (hb1.trans (hb4.mono hb1.size)).trans (hbr.mono (Nat.le_trans hb1.size hb4.size))
        by_cases hlt : k < l.length
        · have hcell0 := hcells k hlt
          have hcell : wr.cell? ⟨b0, o + k, none⟩ = some (.string l[k]) := (hbw.cell (cell_lt hcell0)).trans hcell0
          obtain rfl := hp (by omega)
          have hMr := hM.below hbr
          have hr := hMr.row hlt
          have hce := hMr.cell hlt k2
          have hle := forTo_le l acts b k
          have HB := Lib.hid hbr
          clear hp hcells hcell0 hMr
          cases hx : closM l acts k ib with
          | true =>
            rw [hx] at hce
            have HX : Hid (forTo l acts b (k + 1) = forTo l acts b k ++ [l[k]]) := forTo_hit hlt (by rw [HA.out k hlt]; exact hx)
            clear hx
            go_wp2_with (at_builtin; refine wpList_append_own _ rfl _ _ 22 rfl w4.heap.size 9 t0 (.string ByteArray.empty) 1 16 Tryd.underlying22 hi hz0 hz1 hz2 rfl (by decide) _ _ _ rfl (hown.alloc _) ⟨wr.heap.size, 0, none⟩ 1 1 [.string l[k]] rfl rfl ?c1 ?c2 ?c3 ?c4 ?c5 ?_)
            case c1 =>
              intro j u hj
              match j, hj with
              | 0, hj => simp at hj; subst hj; simp [Addr.add]
            case c2 => intro u hu; simp at hu; subst hu; rfl
            case c3 => unfold maxLen; omega
            case c4 => omega
            case c5 => have := hbr.size; simp; omega
            · intro v' w5 hown' hgrow _
              go_wp2
              go_roundw
              case rel =>
                refine ⟨k + 1, by omega, by go_num, (HB.out.alloc HB.out.size _).grown hgrow (by have := HB.out.size; simp; omega) (fun q hq => (hown.lt q hq).1), ?_⟩
                rw [HX.out]
                simpa using hown'
              case measure => simp [intOf]; omega
          | false =>
            rw [hx] at hce
            have HX : Hid (forTo l acts b (k + 1) = forTo l acts b k) := forTo_miss hlt (by rw [HA.out k hlt]; exact hx)
            clear hx
            go_wp2
            go_roundw
            case rel => exact ⟨k + 1, by omega, by go_num, HB.out, by rw [HX.out]; exact hown⟩
            case measure => simp [intOf]; omega
        · obtain rfl : k = l.length := by omega
          clear hp hcells
          go_wp2
          go_ret2
          exact ⟨_, rfl, Strs.of_owns hown, hbw⟩
    | false =>
      have e1 : forE l acts b = 5 := by unfold forE; rw [if_neg (by omega), hb]; rfl
      have e2 : forR l acts b = [] := by unfold forR; rw [if_neg (by omega)]
      rw [e1, e2]
      have k1 := idxOf_hasnt hb
      have hI2 : ∀ w', Below w.heap.size w w' → Calls Tryd.prog 43 #[v, .string b] w' fun e w'' => e = .returned (.int .i64 (-1)) ∧ w'' = w' := fun w' hb' => by
        rw [← k1]; exact (index_calls l _ _ _ (hv0.stays (keeps_of_below hb'))).mono fun _ _ h => ⟨h.1, h.2.symm⟩
      have HI2 := Lib.hid hI2
      clear hI2 k1 hb hc z3 z4 e1 e2
      go_enter Tryd.func17, Tryd.ntmps17
      go_wp2_with (go_at_call 18; refine (check_calls l acts _ _ _ hv hu).mono ?_; rintro e w1 ⟨rfl, hb1⟩)
      refine (HI2.out _ hb1).mono ?_
      rintro e w3 ⟨rfl, rfl⟩
      go_wp2
      go_ret2
      exact ⟨_, rfl, ⟨none, 0, rfl, by simp, by unfold maxLen; omega, Or.inl rfl⟩, hb1⟩
  · have e1 : forE l acts b = checkC l acts := by unfold forE; rw [if_pos hc]
    have e2 : forR l acts b = [] := by unfold forR; rw [if_neg (by omega)]
    rw [e1, e2]
    have hc' : (checkC l acts == 0) = false := by simpa using hc
    have hc2 : (checkC l acts != 0) = true := by simpa using hc
    clear e1 e2
    go_enter Tryd.func17, Tryd.ntmps17
    go_wp2_with (go_at_call 18; refine (check_calls l acts _ _ _ hv hu).mono ?_; rintro e w1 ⟨rfl, hb1⟩)
    go_ret2
    exact ⟨_, rfl, ⟨none, 0, rfl, by simp, by unfold maxLen; omega, Or.inl rfl⟩, hb1⟩
end Go.Proofs.YtfbieagkhbmgjaaDoor
