/-
  cloisterlaw.ViewSeen: the call returns true.
-/
import Derived.Test.YtfbieagkhbmgjaaDoorViewS
import Derived.Test.YtfbieagkhbmgjaaDoorRefL
import Derived.Test.YtfbieagkhbmgjaaDoorRefC
namespace Go.Proofs.YtfbieagkhbmgjaaDoor
open Go.RowKit Go.Maps
set_option linter.unusedVariables false
set_option linter.unusedSimpArgs false

section
variable {l : List Txt} {acts : List (Txt × Txt)} {who : Txt} {x : List Evt}
theorem labErr_nil (l : List Txt) : labErr l [] = 0 := labErr_none (by simp) fun j hj => absurd hj (Nat.not_lt_zero _)
theorem sees_chiefs (h : checkC l acts ≠ 0) (y : Lab) : seesE l acts who y = checkC l acts := by
  have e : labE l acts y = checkC l acts := by unfold labE; rw [if_pos h]
  unfold seesE
  rw [e, if_pos h]
theorem sees_label (h : checkC l acts = 0) (hw : has l who = true) (y : Lab) : seesE l acts who y = labErr l y := by
  have e : labE l acts y = labErr l y := by unfold labE; rw [if_neg (by omega)]
  unfold seesE
  rw [e, hw]
  by_cases h0 : labErr l y = 0
  · rw [if_neg (by omega), h0]; rfl
  · rw [if_pos h0]
theorem seen_many (h : 3000 < x.length) : seenE l acts who x = 2 ∧ seenR l acts who x = [] := by
  have e : seenE l acts who x = 2 := by unfold seenE; rw [if_pos h]
  exact ⟨e, by unfold seenR; rw [e, if_neg (by omega)]⟩
theorem seen_chiefs (h0 : ¬ 3000 < x.length) (h : checkC l acts ≠ 0) : seenE l acts who x = checkC l acts ∧ seenR l acts who x = [] := by
  have e0 := sees_chiefs (who := who) h []
  have e : seenE l acts who x = checkC l acts := by unfold seenE; rw [if_neg h0, e0, if_pos h]
  exact ⟨e, by unfold seenR; rw [e, if_neg h]⟩
theorem seen_who (h0 : ¬ 3000 < x.length) (h : checkC l acts = 0) (hw : has l who = false) : seenE l acts who x = 5 ∧ seenR l acts who x = [] := by
  have e0 : seesE l acts who [] = 5 := by
    have e : labE l acts [] = 0 := by unfold labE; rw [if_neg (by omega), labErr_nil]
    unfold seesE
    rw [e, hw]
    rfl
  have e : seenE l acts who x = 5 := by unfold seenE; rw [if_neg h0, e0, if_pos (by omega)]
  exact ⟨e, by unfold seenR; rw [e, if_neg (by omega)]⟩
theorem sees_nil_ok (h : checkC l acts = 0) (hw : has l who = true) : seesE l acts who [] = 0 := by rw [sees_label h hw, labErr_nil]
theorem seen_label (h0 : ¬ 3000 < x.length) (h : checkC l acts = 0) (hw : has l who = true) {k : Nat} (hk : k < x.length) (hl : labErr l x[k].2.2 ≠ 0) (hne : ∀ j (hj : j < x.length), j < k → labErr l x[j].2.2 = 0) : seenE l acts who x = labErr l x[k].2.2 ∧ seenR l acts who x = [] := by
  have e : seenE l acts who x = labErr l x[k].2.2 := by
    unfold seenE
    rw [if_neg h0, if_neg (by rw [sees_nil_ok h hw]; omega), evErr_at hk (by rw [sees_label h hw]; exact hl) (fun j hj hj' => by rw [sees_label h hw]; exact hne j hj hj'), sees_label h hw]
  exact ⟨e, by unfold seenR; rw [e, if_neg hl]⟩
theorem seen_all (h0 : ¬ 3000 < x.length) (h : checkC l acts = 0) (hw : has l who = true) (hne : ∀ j (hj : j < x.length), labErr l x[j].2.2 = 0) : seenE l acts who x = 0 ∧ seenR l acts who x = seenTo l acts who x x.length := by
  have e : seenE l acts who x = 0 := by
    unfold seenE
    rw [if_neg h0, if_neg (by rw [sees_nil_ok h hw]; omega), evErr_none (fun j hj => by rw [sees_label h hw]; exact hne j hj)]
  exact ⟨e, by unfold seenR; rw [e, if_pos rfl]⟩
theorem sees_reads (h : checkC l acts = 0) (hw : has l who = true) {y : Lab} (hy : labErr l y = 0) : seesB l acts who y = has (readsL (actsF acts) l y) who := by
  have e : labE l acts y = 0 := by unfold labE; rw [if_neg (by omega), hy]
  have e2 : readsR l acts y = readsL (actsF acts) l y := by
    unfold readsR
    rw [if_pos e]
    exact reads_acts h (right_of e)
  unfold seesB
  rw [sees_label h hw, hy, e2]
  rfl
theorem bare_map (y : List Evt) : ∀ e ∈ y.map bareEv, e.2.2 = [] := fun e he => by
  obtain ⟨z, _, rfl⟩ := List.mem_map.1 he
  rfl
end

set_option maxHeartbeats 4000000 in
set_option maxRecDepth 100000 in
theorem viewSeen_le_many (l : List Txt) (acts : List (Txt × Txt)) (who : Txt) (x m : List Evt) (v u t s : Value) (mx : Int) (w : World) (hv : Strs w l v) (hu : Prs w acts u) (ht : Evs w x t) (hs : Evs w m s) (hl : okList okTxt l) (ho : okList (okBoth okTxt okTxt) acts) (hxo : okList okEvt x) (hm : w.cell? ⟨0, 0, none⟩ = some (.int .i64 mx)) (hn : x.length * 48 ≤ 140737488351232) (hle : x.length ≤ m.length) (hmany : 3000 < x.length) :
    Calls Tryd.prog 5 #[v, u, .string who, t, s] w fun e w' => e = .returned (.bool true) ∧ Below w.heap.size w w' := by
  have hv0 := hv
  have hu0 := hu
  have ht0 := ht
  have hs0 := hs
  obtain ⟨b0, o0, c0, p0, rfl, _⟩ := hv.cells
  obtain ⟨b1, o1, c1, p1, rfl, _⟩ := hu.cells
  obtain ⟨b2, o2, c2, p2, rfl, hlc2, hcm2, hp2, hcells2⟩ := ht.cells
  obtain ⟨b3, o3, c3, p3, rfl, hlc3, hcm3, _⟩ := hs.cells
  obtain ⟨t0, hi, hz0, hz1, hz2⟩ := info_parts Tryd.info_event
  have HV : Hid (∀ W, Below w.heap.size w W → Strs W l (.slice p0 l.length c0)) := fun W h => hv0.stays (keeps_of_below h)
  have HU : Hid (∀ W, Below w.heap.size w W → Prs W acts (.slice p1 acts.length c1)) := fun W h => hu0.stays (keeps_of_below h)
  have HX : Hid (∀ W, Below w.heap.size w W → Evs W x (.slice p2 x.length c2)) := fun W h => ht0.stays (keeps_of_below h)
  have HMM : Hid (∀ W, Below w.heap.size w W → Evs W m (.slice p3 m.length c3)) := fun W h => hs0.stays (keeps_of_below h)
  have HPP := Lib.hid hp2
  have HCE := Lib.hid hcells2
  have HSN : Hid (Calls Tryd.prog 21 #[.slice p0 l.length c0, .slice p1 acts.length c1, .string who, .slice p2 x.length c2] w fun e w' => ∃ y, e = .returned (.tuple #[y, .int .i64 (seenE l acts who x)]) ∧ Evs w' (seenR l acts who x) y ∧ Below w.heap.size w w') :=
    seen_calls l acts who x _ _ _ w hv0 hu0 ht0 hl hxo
  have HCK : Hid (∀ W, Below w.heap.size w W → Calls Tryd.prog 9 #[.slice p0 l.length c0, .slice p1 acts.length c1] W fun e w' => e = .returned (.int .i64 (checkC l acts)) ∧ Below W.heap.size W w') := fun W h =>
    refCheck_calls l acts _ _ mx W (HV.out W h) (HU.out W h) hl ho ((h.cell (cell_lt hm)).trans hm)
  have HCON : Hid (∀ W, Below w.heap.size w W → Calls Tryd.prog 19 #[.slice p0 l.length c0, .string who] W fun e w' => e = .returned (.bool (has l who)) ∧ W = w') := fun W h => contains_calls l who _ W (HV.out W h)
  have HCL : Hid (∀ W y vy, Below w.heap.size w W → Lbl W y vy → Calls Tryd.prog 28 #[.slice p0 l.length c0, vy] W fun e w' => e = .returned (.int .i64 (labErr l y)) ∧ Below W.heap.size W w') := fun W y vy h hy =>
    refLabel_calls l y _ _ W (HV.out W h) hy
  clear hv hu ht hs hv0 hu0 ht0 hs0 hp2 hcells2 hm hl ho hxo
  have hbig : 3000 < (x.length : Int) := by omega
  have HSE := Lib.hid (seen_many (l := l) (acts := acts) (who := who) hmany).1
  have HSR := Lib.hid (seen_many (l := l) (acts := acts) (who := who) hmany).2
  clear hmany
  have HBG : Hid (beginsB x m = bareEq x (m.take x.length)) := by unfold Hid beginsB; simp [hle]
  have hle1 : (x.length : Int) ≤ (m.length : Int) := by omega
  go_enter Tryd.func5, Tryd.ntmps5
  go_wp2_with (fail)
  refine HSN.out.mono ?_
  rintro e w1 ⟨y, rfl, hy, hb1⟩
  rw [HSR.out] at hy
  rw [HSE.out]
  obtain ⟨by_, oy, cy, py, rfl, _⟩ := hy.cells
  have HY := Lib.hid hy
  have HB1 := Lib.hid hb1
  clear hy hb1
  go_wp2_with (fail)
  refine (released_calls x _ _ (HX.out _ HB1.out) hn).mono ?_
  rintro e w2 ⟨rv, ov, rfl, hrv, hov, hb2⟩
  obtain ⟨br, or_, cr, pr, rfl, _⟩ := hrv.cells
  obtain ⟨bo, oo, co, po, rfl, _⟩ := hov.cells
  have HB2 := Lib.hid (HB1.out.trans (hb2.mono HB1.out.size))
  have HY2 := Lib.hid (HY.out.stays (keeps_of_below hb2))
  have HRV := Lib.hid hrv
  have HOV := Lib.hid hov
  clear hb2 hrv hov
  go_wp2_with (fail)
  refine (viewed_calls _).mono ?_
  rintro e w3 ⟨rfl, hb3⟩
  have HB3 := Lib.hid (HB2.out.trans (hb3.mono HB2.out.size))
  have HY3 := Lib.hid (HY2.out.stays (keeps_of_below hb3))
  have HRV3 := Lib.hid (HRV.out.stays (keeps_of_below hb3))
  have HOV3 := Lib.hid (HOV.out.stays (keeps_of_below hb3))
  clear hb3
  go_wp2_with (fail)
  refine (begins_calls x m _ _ _ (HX.out _ HB3.out) (HMM.out _ HB3.out)).mono ?_
  rintro e w4 ⟨rfl, hb4⟩
  rw [HBG.out]
  have HB4 := Lib.hid (HB3.out.trans (hb4.mono HB3.out.size))
  have HY4 := Lib.hid (HY3.out.stays (keeps_of_below hb4))
  have HRV4 := Lib.hid (HRV3.out.stays (keeps_of_below hb4))
  have HOV4 := Lib.hid (HOV3.out.stays (keeps_of_below hb4))
  clear hb4
  have HTK : Hid (Evs w4 (m.take x.length) (.slice p3 x.length c3)) := SliceOf.take (HMM.out _ HB4.out) x.length hle
  have hmin : min (x.length : Int) (m.length : Int) = x.length := by omega
  have hmin2 : min x.length m.length = x.length := by omega
  go_wp2_with (fail)
  refine (bare_calls x (m.take x.length) _ _ _ (HX.out _ HB4.out) HTK.out).mono ?_
  rintro e w5 ⟨rfl, hb5⟩
  have hbb : (bareEq x (m.take x.length) != bareEq x (m.take x.length)) = false := bne_self_eq_false _
  have HB5 := Lib.hid (HB4.out.trans (hb5.mono HB4.out.size))
  have HY5 := Lib.hid (HY4.out.stays (keeps_of_below hb5))
  have HRV5 := Lib.hid (HRV4.out.stays (keeps_of_below hb5))
  have HOV5 := Lib.hid (HOV4.out.stays (keeps_of_below hb5))
  clear hb5 hmin hmin2
  go_wp2
  go_loopw [15, 16, 63] (fun r o i ws => ∃ (k : Nat) (wo : World) (rv ov : Value), k ≤ x.length ∧ i = .int .i64 k ∧ wo = ws ∧ rv = r ∧ ov = o ∧ Hid (Below w5.heap.size w5 wo) ∧ Hid (wo.ownsRow w5.heap.size 52 3 rv (relTo x k).length ((relTo x k).flatMap evCells)) ∧ Hid (wo.ownsRow w5.heap.size 52 3 ov (othTo x k).length ((othTo x k).flatMap evCells)) ∧ Hid (ApartV rv ov)) (fun _ _ i _ => x.length - (intOf i).toNat)
  case atStart => exact ⟨0, _, _, _, Nat.zero_le _, rfl, rfl, rfl, rfl, Below.refl _ _, World.ownsRow_nil _ _ _ _, World.ownsRow_nil _ _ _ _, fun q h => by cases h⟩
  case round =>
    obtain ⟨k, wo, rv, ov, hk, rfl, rfl, rfl, rfl, HB, HR, HO, HA⟩ := hrel
    have HBW : Hid (Below w.heap.size w wo) := HB5.out.trans (HB.out.mono HB5.out.size)
    by_cases hlt : k < x.length
    · obtain ⟨ul, g1, g2, g3, hul⟩ := HCE.out k hlt
      obtain ⟨_, _, kl, pl, rfl, _⟩ := hul.cells
      have hcell1 : wo.cell? ⟨b2, o2 + k * 3, none⟩ = some (.string x[k].1) := (HBW.out.cell (cell_lt g1)).trans g1
      have hcell2 : wo.cell? ⟨b2, o2 + k * 3 + 1, none⟩ = some (.int .i64 x[k].2.1) := (HBW.out.cell (cell_lt g2)).trans g2
      have hcell3 : wo.cell? ⟨b2, o2 + k * 3 + 2, none⟩ = some (.slice pl x[k].2.2.length kl) := (HBW.out.cell (cell_lt g3)).trans g3
      obtain rfl := HPP.out (by omega)
      obtain ⟨W1, eW⟩ : ∃ W1, wo.alloc (.cells #[.string x[k].1, .int .i64 x[k].2.1, .slice pl x[k].2.2.length kl] 52) = W1 := ⟨_, rfl⟩
      obtain ⟨z1, hW1, m1⟩ := boxes1 eW
      obtain ⟨W2, eW2⟩ : ∃ W2, (W1.alloc (.cells #[.string x[k].1, .int .i64 x[k].2.1, .slice none 0 0] 52)).setCell ⟨W1.heap.size, 2, none⟩ (.slice none 0 0) = W2 := ⟨_, rfl⟩
      have hW2 : Below W1.heap.size W1 W2 := by rw [← eW2]; exact ((Below.refl _ _).alloc (Nat.le_refl _) _).setCell (Nat.le_refl _) _
      have s4 : W2.cell? ⟨W1.heap.size, 0, none⟩ = some (.string x[k].1) := by rw [← eW2, World.cell?_setCell_other _ _ _ _ (by simp), alloc_cell_new _ _ _ _ _ rfl]; rfl
      have s5 : W2.cell? ⟨W1.heap.size, 1, none⟩ = some (.int .i64 x[k].2.1) := by rw [← eW2, World.cell?_setCell_other _ _ _ _ (by simp), alloc_cell_new _ _ _ _ _ rfl]; rfl
      have s6 : W2.cell? ⟨W1.heap.size, 2, none⟩ = some (.slice none 0 0) := by rw [← eW2]; exact World.cell?_setCell_same _ _ _ ((alloc_cell_new _ _ _ _ _ rfl).trans rfl)
      have r1 := m1 0
      have r2 := m1 1
      simp only [List.getElem?_toArray, List.getElem?_cons_zero, List.getElem?_cons_succ] at r1 r2
      have s1 : W2.cell? ⟨wo.heap.size, 0, none⟩ = _ := (hW2.cell (cell_lt r1)).trans r1
      have HB1 : Hid (Below w5.heap.size w5 W2) := HB.out.trans ((hW1.trans (hW2.mono hW1.size)).mono HB.out.size)
      have hR1 := own_below HR.out (hW1.trans (hW2.mono hW1.size))
      have hO1 := own_below HO.out (hW1.trans (hW2.mono hW1.size))
      have hle1 := relTo_le x k
      have hle2 := othTo_le x k
      have hsz1 := HB1.out.size
      clear g1 g2 g3 hul m1 hW1 z1 hW2
      cases hq : isRel x[k] with
      | true =>
        have hx : x[k].1 = ByteArray.empty := eq_of_beq hq
        have HH := Lib.hid (rel_hit hlt hq)
        have q1 : x[k].1.toList = [] := by rw [hx, Lib.toList_data]; rfl
        have q2 : x[k].1.toList.isEmpty = true := by rw [q1]; rfl
        have HO1 := Lib.hid hO1
        clear hq hx hO1
        go_wp2_with (at_builtin; refine wpList_append_own_at _ rfl _ _ 43 rfl w5.heap.size 52 t0 (.agg #[.string ByteArray.empty, .int .i64 0, .slice none 0 0]) 3 48 Tryd.underlying43 hi hz0 hz1 hz2 rfl (by decide) _ _ _ rfl (hR1.alloc _) ⟨W2.heap.size, 0, none⟩ 1 1 (evCells x[k]) rfl rfl ?c1 ?c2 ?c3 ?c4 ?c5 ?_)
        case c1 =>
          intro j u hj
          match j, hj with
          | 0, hj => simp [evCells] at hj; subst hj; simp [Addr.add]
          | 1, hj => simp [evCells] at hj; subst hj; simp [Addr.add]
          | 2, hj => simp [evCells] at hj; subst hj; simp [Addr.add]
        case c2 => intro u hu; simp [evCells] at hu; rcases hu with rfl | rfl | rfl <;> rfl
        case c3 => unfold maxLen; omega
        case c4 => omega
        case c5 => first | omega | (simp; omega)
        · intro v' w6 hown' hgrow _ hat
          have HAP : Hid (ApartV v' ov) := apart_grown HO1.out HA.out (by omega) hat
          have HOO : Hid (w6.ownsRow w5.heap.size 52 3 ov (othTo x k).length ((othTo x k).flatMap evCells)) := own_apart (HO1.out.alloc _) HA.out hgrow
          clear hat s1 s4 s5 s6
          go_wp2
          go_roundw
          case rel =>
            refine ⟨k + 1, _, _, _, by omega, by go_num, rfl, rfl, rfl, (HB1.out.alloc HB1.out.size _).grown hgrow (by simp; omega) (fun q hq => (hR1.lt q hq).1), ?_, ?_, HAP.out⟩
            · unfold Hid
              rw [HH.out.1, List.length_append, List.flatMap_append, List.flatMap_cons, List.flatMap_nil, List.append_nil]
              exact hown'
            · unfold Hid
              rw [HH.out.2]
              exact HOO.out
          case measure => simp [intOf]; omega
      | false =>
        have HH := Lib.hid (rel_miss hlt hq)
        have hne : x[k].1 ≠ ByteArray.empty := fun e => by rw [isRel, e] at hq; simp at hq
        have hne2 : x[k].1.toList ≠ [] := fun e => hne (txt_ext (by rw [Lib.toList_data] at e; exact e))
        have q1 : ¬ x[k].1.toList = [] := hne2
        have q2 : x[k].1.toList.isEmpty = false := by
          cases h : x[k].1.toList with
          | nil => exact absurd h hne2
          | cons => rfl
        have HR1 := Lib.hid hR1
        clear hq hne hne2 hR1
        go_wp2_with (at_builtin; refine wpList_append_own_at _ rfl _ _ 43 rfl w5.heap.size 52 t0 (.agg #[.string ByteArray.empty, .int .i64 0, .slice none 0 0]) 3 48 Tryd.underlying43 hi hz0 hz1 hz2 rfl (by decide) _ _ _ rfl (hO1.alloc _) ⟨W2.heap.size, 0, none⟩ 1 1 (evCells x[k]) rfl rfl ?c1 ?c2 ?c3 ?c4 ?c5 ?_)
        case c1 =>
          intro j u hj
          match j, hj with
          | 0, hj => simp [evCells] at hj; subst hj; simp [Addr.add]
          | 1, hj => simp [evCells] at hj; subst hj; simp [Addr.add]
          | 2, hj => simp [evCells] at hj; subst hj; simp [Addr.add]
        case c2 => intro u hu; simp [evCells] at hu; rcases hu with rfl | rfl | rfl <;> rfl
        case c3 => unfold maxLen; omega
        case c4 => omega
        case c5 => first | omega | (simp; omega)
        · intro v' w6 hown' hgrow _ hat
          have HAP : Hid (ApartV v' rv) := apart_grown HR1.out HA.out.symm (by omega) hat
          have HOO : Hid (w6.ownsRow w5.heap.size 52 3 rv (relTo x k).length ((relTo x k).flatMap evCells)) := own_apart (HR1.out.alloc _) HA.out.symm hgrow
          clear hat s1 s4 s5 s6
          go_wp2
          go_roundw
          case rel =>
            refine ⟨k + 1, _, _, _, by omega, by go_num, rfl, rfl, rfl, (HB1.out.alloc HB1.out.size _).grown hgrow (by simp; omega) (fun q hq => (hO1.lt q hq).1), ?_, ?_, HAP.out.symm⟩
            · unfold Hid
              rw [HH.out.1]
              exact HOO.out
            · unfold Hid
              rw [HH.out.2, List.length_append, List.flatMap_append, List.flatMap_cons, List.flatMap_nil, List.append_nil]
              exact hown'
          case measure => simp [intOf]; omega
    · obtain rfl : k = x.length := by omega
      have hRv := own_evs HR.out
      have hOv := own_evs HO.out
      obtain ⟨bR, oR, cR, pR, rfl, _⟩ := hRv.cells
      obtain ⟨bO, oO, cO, pO, rfl, _⟩ := hOv.cells
      have HRW := Lib.hid hRv
      have HOW := Lib.hid hOv
      have HE1 := Lib.hid (eqEv_calls ((relTo x x.length).map bareEv) _ _ wo (HRV5.out.stays (keeps_of_below HB.out)) HRW.out (bare_map _))
      clear hRv hOv HR HO HA
      simp only [List.length_map] at HE1
      go_wp2_with (fail)
      refine HE1.out.mono ?_
      rintro e w6 ⟨rfl, hb6⟩
      have HB56 := Lib.hid (HB.out.trans (hb6.mono HB.out.size))
      have HE2 := Lib.hid (eqEv_calls ((othTo x x.length).map bareEv) _ _ w6 (HOV5.out.stays (keeps_of_below HB56.out)) (HOW.out.stays (keeps_of_below hb6)) (bare_map _))
      simp only [List.length_map] at HE2
      clear hb6
      go_wp2_with (fail)
      refine HE2.out.mono ?_
      rintro e w7 ⟨rfl, hb7⟩
      have HB57 := Lib.hid (HB56.out.trans (hb7.mono HB56.out.size))
      have HB7 := Lib.hid (HB5.out.trans (HB57.out.mono HB5.out.size))
      have HY7 := Lib.hid (HY5.out.stays (keeps_of_below HB57.out))
      clear hb7
      obtain ⟨w8, rfl⟩ : ∃ w8, w8 = w7 := ⟨_, rfl⟩
      have HB8 := HB7
      go_wp2
      go_loopw [20, 110] (fun b i ws => ∃ (k : Nat) (wo : World), k ≤ x.length ∧ i = .int .i64 k ∧ b = .int .i64 2 ∧ wo = ws ∧ Hid (Below w.heap.size w wo)) (fun _ i _ => x.length - (intOf i).toNat)
      case atStart => exact ⟨0, _, Nat.zero_le _, rfl, rfl, rfl, HB8.out⟩
      case round =>
        obtain ⟨k, wo, hk, rfl, rfl, rfl, HBB⟩ := hrel
        by_cases hlt : k < x.length
        · obtain ⟨ul, g1, g2, g3, hul⟩ := HCE.out k hlt
          obtain ⟨_, _, kl, pl, rfl, _⟩ := hul.cells
          have hcell1 : wo.cell? ⟨b2, o2 + k * 3, none⟩ = some (.string x[k].1) := (HBB.out.cell (cell_lt g1)).trans g1
          have hcell2 : wo.cell? ⟨b2, o2 + k * 3 + 1, none⟩ = some (.int .i64 x[k].2.1) := (HBB.out.cell (cell_lt g2)).trans g2
          have hcell3 : wo.cell? ⟨b2, o2 + k * 3 + 2, none⟩ = some (.slice pl x[k].2.2.length kl) := (HBB.out.cell (cell_lt g3)).trans g3
          obtain rfl := HPP.out (by omega)
          have HBX : Hid (Below w.heap.size w (wo.alloc (.cells #[.string x[k].1, .int .i64 x[k].2.1, .slice pl x[k].2.2.length kl] 52))) := HBB.out.alloc HBB.out.size _
          clear g1 g2 g3 hul
          go_wp2
          go_ret
          exact ⟨rfl, HBX.out⟩
        · go_wp2
          go_ret
          exact ⟨rfl, HBB.out⟩

set_option maxHeartbeats 4000000 in
set_option maxRecDepth 100000 in
theorem viewSeen_le_chiefs (l : List Txt) (acts : List (Txt × Txt)) (who : Txt) (x m : List Evt) (v u t s : Value) (mx : Int) (w : World) (hv : Strs w l v) (hu : Prs w acts u) (ht : Evs w x t) (hs : Evs w m s) (hl : okList okTxt l) (ho : okList (okBoth okTxt okTxt) acts) (hxo : okList okEvt x) (hm : w.cell? ⟨0, 0, none⟩ = some (.int .i64 mx)) (hn : x.length * 48 ≤ 140737488351232) (hle : x.length ≤ m.length) (hmany : ¬ 3000 < x.length) (hc : checkC l acts ≠ 0) :
    Calls Tryd.prog 5 #[v, u, .string who, t, s] w fun e w' => e = .returned (.bool true) ∧ Below w.heap.size w w' := by
  have hv0 := hv
  have hu0 := hu
  have ht0 := ht
  have hs0 := hs
  obtain ⟨b0, o0, c0, p0, rfl, _⟩ := hv.cells
  obtain ⟨b1, o1, c1, p1, rfl, _⟩ := hu.cells
  obtain ⟨b2, o2, c2, p2, rfl, hlc2, hcm2, hp2, hcells2⟩ := ht.cells
  obtain ⟨b3, o3, c3, p3, rfl, hlc3, hcm3, _⟩ := hs.cells
  obtain ⟨t0, hi, hz0, hz1, hz2⟩ := info_parts Tryd.info_event
  have HV : Hid (∀ W, Below w.heap.size w W → Strs W l (.slice p0 l.length c0)) := fun W h => hv0.stays (keeps_of_below h)
  have HU : Hid (∀ W, Below w.heap.size w W → Prs W acts (.slice p1 acts.length c1)) := fun W h => hu0.stays (keeps_of_below h)
  have HX : Hid (∀ W, Below w.heap.size w W → Evs W x (.slice p2 x.length c2)) := fun W h => ht0.stays (keeps_of_below h)
  have HMM : Hid (∀ W, Below w.heap.size w W → Evs W m (.slice p3 m.length c3)) := fun W h => hs0.stays (keeps_of_below h)
  have HPP := Lib.hid hp2
  have HCE := Lib.hid hcells2
  have HSN : Hid (Calls Tryd.prog 21 #[.slice p0 l.length c0, .slice p1 acts.length c1, .string who, .slice p2 x.length c2] w fun e w' => ∃ y, e = .returned (.tuple #[y, .int .i64 (seenE l acts who x)]) ∧ Evs w' (seenR l acts who x) y ∧ Below w.heap.size w w') :=
    seen_calls l acts who x _ _ _ w hv0 hu0 ht0 hl hxo
  have HCK : Hid (∀ W, Below w.heap.size w W → Calls Tryd.prog 9 #[.slice p0 l.length c0, .slice p1 acts.length c1] W fun e w' => e = .returned (.int .i64 (checkC l acts)) ∧ Below W.heap.size W w') := fun W h =>
    refCheck_calls l acts _ _ mx W (HV.out W h) (HU.out W h) hl ho ((h.cell (cell_lt hm)).trans hm)
  have HCON : Hid (∀ W, Below w.heap.size w W → Calls Tryd.prog 19 #[.slice p0 l.length c0, .string who] W fun e w' => e = .returned (.bool (has l who)) ∧ W = w') := fun W h => contains_calls l who _ W (HV.out W h)
  have HCL : Hid (∀ W y vy, Below w.heap.size w W → Lbl W y vy → Calls Tryd.prog 28 #[.slice p0 l.length c0, vy] W fun e w' => e = .returned (.int .i64 (labErr l y)) ∧ Below W.heap.size W w') := fun W y vy h hy =>
    refLabel_calls l y _ _ W (HV.out W h) hy
  clear hv hu ht hs hv0 hu0 ht0 hs0 hp2 hcells2 hm hl ho hxo
  have hbig : ¬ 3000 < (x.length : Int) := by omega
  have HSE := Lib.hid (seen_chiefs (who := who) hmany hc).1
  have HSR := Lib.hid (seen_chiefs (who := who) hmany hc).2
  have hq1 : (checkC l acts != 0) = true := by simpa using hc
  have hq2 : (checkC l acts == 0) = false := by simpa using hc
  have hq3 : (checkC l acts == checkC l acts) = true := beq_self_eq_true _
  clear hc hmany
  have HBG : Hid (beginsB x m = bareEq x (m.take x.length)) := by unfold Hid beginsB; simp [hle]
  have hle1 : (x.length : Int) ≤ (m.length : Int) := by omega
  go_enter Tryd.func5, Tryd.ntmps5
  go_wp2_with (fail)
  refine HSN.out.mono ?_
  rintro e w1 ⟨y, rfl, hy, hb1⟩
  rw [HSR.out] at hy
  rw [HSE.out]
  obtain ⟨by_, oy, cy, py, rfl, _⟩ := hy.cells
  have HY := Lib.hid hy
  have HB1 := Lib.hid hb1
  clear hy hb1
  go_wp2_with (fail)
  refine (released_calls x _ _ (HX.out _ HB1.out) hn).mono ?_
  rintro e w2 ⟨rv, ov, rfl, hrv, hov, hb2⟩
  obtain ⟨br, or_, cr, pr, rfl, _⟩ := hrv.cells
  obtain ⟨bo, oo, co, po, rfl, _⟩ := hov.cells
  have HB2 := Lib.hid (HB1.out.trans (hb2.mono HB1.out.size))
  have HY2 := Lib.hid (HY.out.stays (keeps_of_below hb2))
  have HRV := Lib.hid hrv
  have HOV := Lib.hid hov
  clear hb2 hrv hov
  go_wp2_with (fail)
  refine (viewed_calls _).mono ?_
  rintro e w3 ⟨rfl, hb3⟩
  have HB3 := Lib.hid (HB2.out.trans (hb3.mono HB2.out.size))
  have HY3 := Lib.hid (HY2.out.stays (keeps_of_below hb3))
  have HRV3 := Lib.hid (HRV.out.stays (keeps_of_below hb3))
  have HOV3 := Lib.hid (HOV.out.stays (keeps_of_below hb3))
  clear hb3
  go_wp2_with (fail)
  refine (begins_calls x m _ _ _ (HX.out _ HB3.out) (HMM.out _ HB3.out)).mono ?_
  rintro e w4 ⟨rfl, hb4⟩
  rw [HBG.out]
  have HB4 := Lib.hid (HB3.out.trans (hb4.mono HB3.out.size))
  have HY4 := Lib.hid (HY3.out.stays (keeps_of_below hb4))
  have HRV4 := Lib.hid (HRV3.out.stays (keeps_of_below hb4))
  have HOV4 := Lib.hid (HOV3.out.stays (keeps_of_below hb4))
  clear hb4
  have HTK : Hid (Evs w4 (m.take x.length) (.slice p3 x.length c3)) := SliceOf.take (HMM.out _ HB4.out) x.length hle
  have hmin : min (x.length : Int) (m.length : Int) = x.length := by omega
  have hmin2 : min x.length m.length = x.length := by omega
  go_wp2_with (fail)
  refine (bare_calls x (m.take x.length) _ _ _ (HX.out _ HB4.out) HTK.out).mono ?_
  rintro e w5 ⟨rfl, hb5⟩
  have hbb : (bareEq x (m.take x.length) != bareEq x (m.take x.length)) = false := bne_self_eq_false _
  have HB5 := Lib.hid (HB4.out.trans (hb5.mono HB4.out.size))
  have HY5 := Lib.hid (HY4.out.stays (keeps_of_below hb5))
  have HRV5 := Lib.hid (HRV4.out.stays (keeps_of_below hb5))
  have HOV5 := Lib.hid (HOV4.out.stays (keeps_of_below hb5))
  clear hb5 hmin hmin2
  go_wp2
  go_loopw [15, 16, 63] (fun r o i ws => ∃ (k : Nat) (wo : World) (rv ov : Value), k ≤ x.length ∧ i = .int .i64 k ∧ wo = ws ∧ rv = r ∧ ov = o ∧ Hid (Below w5.heap.size w5 wo) ∧ Hid (wo.ownsRow w5.heap.size 52 3 rv (relTo x k).length ((relTo x k).flatMap evCells)) ∧ Hid (wo.ownsRow w5.heap.size 52 3 ov (othTo x k).length ((othTo x k).flatMap evCells)) ∧ Hid (ApartV rv ov)) (fun _ _ i _ => x.length - (intOf i).toNat)
  case atStart => exact ⟨0, _, _, _, Nat.zero_le _, rfl, rfl, rfl, rfl, Below.refl _ _, World.ownsRow_nil _ _ _ _, World.ownsRow_nil _ _ _ _, fun q h => by cases h⟩
  case round =>
    obtain ⟨k, wo, rv, ov, hk, rfl, rfl, rfl, rfl, HB, HR, HO, HA⟩ := hrel
    have HBW : Hid (Below w.heap.size w wo) := HB5.out.trans (HB.out.mono HB5.out.size)
    by_cases hlt : k < x.length
    · obtain ⟨ul, g1, g2, g3, hul⟩ := HCE.out k hlt
      obtain ⟨_, _, kl, pl, rfl, _⟩ := hul.cells
      have hcell1 : wo.cell? ⟨b2, o2 + k * 3, none⟩ = some (.string x[k].1) := (HBW.out.cell (cell_lt g1)).trans g1
      have hcell2 : wo.cell? ⟨b2, o2 + k * 3 + 1, none⟩ = some (.int .i64 x[k].2.1) := (HBW.out.cell (cell_lt g2)).trans g2
      have hcell3 : wo.cell? ⟨b2, o2 + k * 3 + 2, none⟩ = some (.slice pl x[k].2.2.length kl) := (HBW.out.cell (cell_lt g3)).trans g3
      obtain rfl := HPP.out (by omega)
      obtain ⟨W1, eW⟩ : ∃ W1, wo.alloc (.cells #[.string x[k].1, .int .i64 x[k].2.1, .slice pl x[k].2.2.length kl] 52) = W1 := ⟨_, rfl⟩
      obtain ⟨z1, hW1, m1⟩ := boxes1 eW
      obtain ⟨W2, eW2⟩ : ∃ W2, (W1.alloc (.cells #[.string x[k].1, .int .i64 x[k].2.1, .slice none 0 0] 52)).setCell ⟨W1.heap.size, 2, none⟩ (.slice none 0 0) = W2 := ⟨_, rfl⟩
      have hW2 : Below W1.heap.size W1 W2 := by rw [← eW2]; exact ((Below.refl _ _).alloc (Nat.le_refl _) _).setCell (Nat.le_refl _) _
      have s4 : W2.cell? ⟨W1.heap.size, 0, none⟩ = some (.string x[k].1) := by rw [← eW2, World.cell?_setCell_other _ _ _ _ (by simp), alloc_cell_new _ _ _ _ _ rfl]; rfl
      have s5 : W2.cell? ⟨W1.heap.size, 1, none⟩ = some (.int .i64 x[k].2.1) := by rw [← eW2, World.cell?_setCell_other _ _ _ _ (by simp), alloc_cell_new _ _ _ _ _ rfl]; rfl
      have s6 : W2.cell? ⟨W1.heap.size, 2, none⟩ = some (.slice none 0 0) := by rw [← eW2]; exact World.cell?_setCell_same _ _ _ ((alloc_cell_new _ _ _ _ _ rfl).trans rfl)
      have r1 := m1 0
      have r2 := m1 1
      simp only [List.getElem?_toArray, List.getElem?_cons_zero, List.getElem?_cons_succ] at r1 r2
      have s1 : W2.cell? ⟨wo.heap.size, 0, none⟩ = _ := (hW2.cell (cell_lt r1)).trans r1
      have HB1 : Hid (Below w5.heap.size w5 W2) := HB.out.trans ((hW1.trans (hW2.mono hW1.size)).mono HB.out.size)
      have hR1 := own_below HR.out (hW1.trans (hW2.mono hW1.size))
      have hO1 := own_below HO.out (hW1.trans (hW2.mono hW1.size))
      have hle1 := relTo_le x k
      have hle2 := othTo_le x k
      have hsz1 := HB1.out.size
      clear g1 g2 g3 hul m1 hW1 z1 hW2
      cases hq : isRel x[k] with
      | true =>
        have hx : x[k].1 = ByteArray.empty := eq_of_beq hq
        have HH := Lib.hid (rel_hit hlt hq)
        have q1 : x[k].1.toList = [] := by rw [hx, Lib.toList_data]; rfl
        have q2 : x[k].1.toList.isEmpty = true := by rw [q1]; rfl
        have HO1 := Lib.hid hO1
        clear hq hx hO1
        go_wp2_with (at_builtin; refine wpList_append_own_at _ rfl _ _ 43 rfl w5.heap.size 52 t0 (.agg #[.string ByteArray.empty, .int .i64 0, .slice none 0 0]) 3 48 Tryd.underlying43 hi hz0 hz1 hz2 rfl (by decide) _ _ _ rfl (hR1.alloc _) ⟨W2.heap.size, 0, none⟩ 1 1 (evCells x[k]) rfl rfl ?c1 ?c2 ?c3 ?c4 ?c5 ?_)
        case c1 =>
          intro j u hj
          match j, hj with
          | 0, hj => simp [evCells] at hj; subst hj; simp [Addr.add]
          | 1, hj => simp [evCells] at hj; subst hj; simp [Addr.add]
          | 2, hj => simp [evCells] at hj; subst hj; simp [Addr.add]
        case c2 => intro u hu; simp [evCells] at hu; rcases hu with rfl | rfl | rfl <;> rfl
        case c3 => unfold maxLen; omega
        case c4 => omega
        case c5 => first | omega | (simp; omega)
        · intro v' w6 hown' hgrow _ hat
          have HAP : Hid (ApartV v' ov) := apart_grown HO1.out HA.out (by omega) hat
          have HOO : Hid (w6.ownsRow w5.heap.size 52 3 ov (othTo x k).length ((othTo x k).flatMap evCells)) := own_apart (HO1.out.alloc _) HA.out hgrow
          clear hat s1 s4 s5 s6
          go_wp2
          go_roundw
          case rel =>
            refine ⟨k + 1, _, _, _, by omega, by go_num, rfl, rfl, rfl, (HB1.out.alloc HB1.out.size _).grown hgrow (by simp; omega) (fun q hq => (hR1.lt q hq).1), ?_, ?_, HAP.out⟩
            · unfold Hid
              rw [HH.out.1, List.length_append, List.flatMap_append, List.flatMap_cons, List.flatMap_nil, List.append_nil]
              exact hown'
            · unfold Hid
              rw [HH.out.2]
              exact HOO.out
          case measure => simp [intOf]; omega
      | false =>
        have HH := Lib.hid (rel_miss hlt hq)
        have hne : x[k].1 ≠ ByteArray.empty := fun e => by rw [isRel, e] at hq; simp at hq
        have hne2 : x[k].1.toList ≠ [] := fun e => hne (txt_ext (by rw [Lib.toList_data] at e; exact e))
        have q1 : ¬ x[k].1.toList = [] := hne2
        have q2 : x[k].1.toList.isEmpty = false := by
          cases h : x[k].1.toList with
          | nil => exact absurd h hne2
          | cons => rfl
        have HR1 := Lib.hid hR1
        clear hq hne hne2 hR1
        go_wp2_with (at_builtin; refine wpList_append_own_at _ rfl _ _ 43 rfl w5.heap.size 52 t0 (.agg #[.string ByteArray.empty, .int .i64 0, .slice none 0 0]) 3 48 Tryd.underlying43 hi hz0 hz1 hz2 rfl (by decide) _ _ _ rfl (hO1.alloc _) ⟨W2.heap.size, 0, none⟩ 1 1 (evCells x[k]) rfl rfl ?c1 ?c2 ?c3 ?c4 ?c5 ?_)
        case c1 =>
          intro j u hj
          match j, hj with
          | 0, hj => simp [evCells] at hj; subst hj; simp [Addr.add]
          | 1, hj => simp [evCells] at hj; subst hj; simp [Addr.add]
          | 2, hj => simp [evCells] at hj; subst hj; simp [Addr.add]
        case c2 => intro u hu; simp [evCells] at hu; rcases hu with rfl | rfl | rfl <;> rfl
        case c3 => unfold maxLen; omega
        case c4 => omega
        case c5 => first | omega | (simp; omega)
        · intro v' w6 hown' hgrow _ hat
          have HAP : Hid (ApartV v' rv) := apart_grown HR1.out HA.out.symm (by omega) hat
          have HOO : Hid (w6.ownsRow w5.heap.size 52 3 rv (relTo x k).length ((relTo x k).flatMap evCells)) := own_apart (HR1.out.alloc _) HA.out.symm hgrow
          clear hat s1 s4 s5 s6
          go_wp2
          go_roundw
          case rel =>
            refine ⟨k + 1, _, _, _, by omega, by go_num, rfl, rfl, rfl, (HB1.out.alloc HB1.out.size _).grown hgrow (by simp; omega) (fun q hq => (hO1.lt q hq).1), ?_, ?_, HAP.out.symm⟩
            · unfold Hid
              rw [HH.out.1]
              exact HOO.out
            · unfold Hid
              rw [HH.out.2, List.length_append, List.flatMap_append, List.flatMap_cons, List.flatMap_nil, List.append_nil]
              exact hown'
          case measure => simp [intOf]; omega
    · obtain rfl : k = x.length := by omega
      have hRv := own_evs HR.out
      have hOv := own_evs HO.out
      obtain ⟨bR, oR, cR, pR, rfl, _⟩ := hRv.cells
      obtain ⟨bO, oO, cO, pO, rfl, _⟩ := hOv.cells
      have HRW := Lib.hid hRv
      have HOW := Lib.hid hOv
      have HE1 := Lib.hid (eqEv_calls ((relTo x x.length).map bareEv) _ _ wo (HRV5.out.stays (keeps_of_below HB.out)) HRW.out (bare_map _))
      clear hRv hOv HR HO HA
      simp only [List.length_map] at HE1
      go_wp2_with (fail)
      refine HE1.out.mono ?_
      rintro e w6 ⟨rfl, hb6⟩
      have HB56 := Lib.hid (HB.out.trans (hb6.mono HB.out.size))
      have HE2 := Lib.hid (eqEv_calls ((othTo x x.length).map bareEv) _ _ w6 (HOV5.out.stays (keeps_of_below HB56.out)) (HOW.out.stays (keeps_of_below hb6)) (bare_map _))
      simp only [List.length_map] at HE2
      clear hb6
      go_wp2_with (fail)
      refine HE2.out.mono ?_
      rintro e w7 ⟨rfl, hb7⟩
      have HB57 := Lib.hid (HB56.out.trans (hb7.mono HB56.out.size))
      have HB7 := Lib.hid (HB5.out.trans (HB57.out.mono HB5.out.size))
      have HY7 := Lib.hid (HY5.out.stays (keeps_of_below HB57.out))
      clear hb7
      go_wp2_with (fail)
      refine (HCK.out _ HB7.out).mono ?_
      rintro e w8 ⟨rfl, hb8⟩
      have HB8 := Lib.hid (HB7.out.trans (hb8.mono HB7.out.size))
      clear hb8
      go_wp2
      go_loopw [20, 110] (fun b i ws => ∃ (k : Nat) (wo : World), k ≤ x.length ∧ i = .int .i64 k ∧ b = .int .i64 (checkC l acts) ∧ wo = ws ∧ Hid (Below w.heap.size w wo)) (fun _ i _ => x.length - (intOf i).toNat)
      case atStart => exact ⟨0, _, Nat.zero_le _, rfl, rfl, rfl, HB8.out⟩
      case round =>
        obtain ⟨k, wo, hk, rfl, rfl, rfl, HBB⟩ := hrel
        by_cases hlt : k < x.length
        · obtain ⟨ul, g1, g2, g3, hul⟩ := HCE.out k hlt
          obtain ⟨_, _, kl, pl, rfl, _⟩ := hul.cells
          have hcell1 : wo.cell? ⟨b2, o2 + k * 3, none⟩ = some (.string x[k].1) := (HBB.out.cell (cell_lt g1)).trans g1
          have hcell2 : wo.cell? ⟨b2, o2 + k * 3 + 1, none⟩ = some (.int .i64 x[k].2.1) := (HBB.out.cell (cell_lt g2)).trans g2
          have hcell3 : wo.cell? ⟨b2, o2 + k * 3 + 2, none⟩ = some (.slice pl x[k].2.2.length kl) := (HBB.out.cell (cell_lt g3)).trans g3
          obtain rfl := HPP.out (by omega)
          have HBX : Hid (Below w.heap.size w (wo.alloc (.cells #[.string x[k].1, .int .i64 x[k].2.1, .slice pl x[k].2.2.length kl] 52))) := HBB.out.alloc HBB.out.size _
          clear g1 g2 g3 hul
          go_wp2
          go_ret
          exact ⟨rfl, HBX.out⟩
        · go_wp2
          go_ret
          exact ⟨rfl, HBB.out⟩

set_option maxHeartbeats 4000000 in
set_option maxRecDepth 100000 in
theorem viewSeen_le_who (l : List Txt) (acts : List (Txt × Txt)) (who : Txt) (x m : List Evt) (v u t s : Value) (mx : Int) (w : World) (hv : Strs w l v) (hu : Prs w acts u) (ht : Evs w x t) (hs : Evs w m s) (hl : okList okTxt l) (ho : okList (okBoth okTxt okTxt) acts) (hxo : okList okEvt x) (hm : w.cell? ⟨0, 0, none⟩ = some (.int .i64 mx)) (hn : x.length * 48 ≤ 140737488351232) (hle : x.length ≤ m.length) (hmany : ¬ 3000 < x.length) (hc : checkC l acts = 0) (hw : has l who = false) :
    Calls Tryd.prog 5 #[v, u, .string who, t, s] w fun e w' => e = .returned (.bool true) ∧ Below w.heap.size w w' := by
  have hv0 := hv
  have hu0 := hu
  have ht0 := ht
  have hs0 := hs
  obtain ⟨b0, o0, c0, p0, rfl, _⟩ := hv.cells
  obtain ⟨b1, o1, c1, p1, rfl, _⟩ := hu.cells
  obtain ⟨b2, o2, c2, p2, rfl, hlc2, hcm2, hp2, hcells2⟩ := ht.cells
  obtain ⟨b3, o3, c3, p3, rfl, hlc3, hcm3, _⟩ := hs.cells
  obtain ⟨t0, hi, hz0, hz1, hz2⟩ := info_parts Tryd.info_event
  have HV : Hid (∀ W, Below w.heap.size w W → Strs W l (.slice p0 l.length c0)) := fun W h => hv0.stays (keeps_of_below h)
  have HU : Hid (∀ W, Below w.heap.size w W → Prs W acts (.slice p1 acts.length c1)) := fun W h => hu0.stays (keeps_of_below h)
  have HX : Hid (∀ W, Below w.heap.size w W → Evs W x (.slice p2 x.length c2)) := fun W h => ht0.stays (keeps_of_below h)
  have HMM : Hid (∀ W, Below w.heap.size w W → Evs W m (.slice p3 m.length c3)) := fun W h => hs0.stays (keeps_of_below h)
  have HPP := Lib.hid hp2
  have HCE := Lib.hid hcells2
  have HSN : Hid (Calls Tryd.prog 21 #[.slice p0 l.length c0, .slice p1 acts.length c1, .string who, .slice p2 x.length c2] w fun e w' => ∃ y, e = .returned (.tuple #[y, .int .i64 (seenE l acts who x)]) ∧ Evs w' (seenR l acts who x) y ∧ Below w.heap.size w w') :=
    seen_calls l acts who x _ _ _ w hv0 hu0 ht0 hl hxo
  have HCK : Hid (∀ W, Below w.heap.size w W → Calls Tryd.prog 9 #[.slice p0 l.length c0, .slice p1 acts.length c1] W fun e w' => e = .returned (.int .i64 (checkC l acts)) ∧ Below W.heap.size W w') := fun W h =>
    refCheck_calls l acts _ _ mx W (HV.out W h) (HU.out W h) hl ho ((h.cell (cell_lt hm)).trans hm)
  have HCON : Hid (∀ W, Below w.heap.size w W → Calls Tryd.prog 19 #[.slice p0 l.length c0, .string who] W fun e w' => e = .returned (.bool (has l who)) ∧ W = w') := fun W h => contains_calls l who _ W (HV.out W h)
  have HCL : Hid (∀ W y vy, Below w.heap.size w W → Lbl W y vy → Calls Tryd.prog 28 #[.slice p0 l.length c0, vy] W fun e w' => e = .returned (.int .i64 (labErr l y)) ∧ Below W.heap.size W w') := fun W y vy h hy =>
    refLabel_calls l y _ _ W (HV.out W h) hy
  clear hv hu ht hs hv0 hu0 ht0 hs0 hp2 hcells2 hm hl ho hxo
  have hbig : ¬ 3000 < (x.length : Int) := by omega
  have HSE := Lib.hid (seen_who hmany hc hw).1
  have HSR := Lib.hid (seen_who hmany hc hw).2
  have HC := Lib.hid hc
  have HW := Lib.hid hw
  clear hc hw hmany
  have HBG : Hid (beginsB x m = bareEq x (m.take x.length)) := by unfold Hid beginsB; simp [hle]
  have hle1 : (x.length : Int) ≤ (m.length : Int) := by omega
  go_enter Tryd.func5, Tryd.ntmps5
  go_wp2_with (fail)
  refine HSN.out.mono ?_
  rintro e w1 ⟨y, rfl, hy, hb1⟩
  rw [HSR.out] at hy
  rw [HSE.out]
  obtain ⟨by_, oy, cy, py, rfl, _⟩ := hy.cells
  have HY := Lib.hid hy
  have HB1 := Lib.hid hb1
  clear hy hb1
  go_wp2_with (fail)
  refine (released_calls x _ _ (HX.out _ HB1.out) hn).mono ?_
  rintro e w2 ⟨rv, ov, rfl, hrv, hov, hb2⟩
  obtain ⟨br, or_, cr, pr, rfl, _⟩ := hrv.cells
  obtain ⟨bo, oo, co, po, rfl, _⟩ := hov.cells
  have HB2 := Lib.hid (HB1.out.trans (hb2.mono HB1.out.size))
  have HY2 := Lib.hid (HY.out.stays (keeps_of_below hb2))
  have HRV := Lib.hid hrv
  have HOV := Lib.hid hov
  clear hb2 hrv hov
  go_wp2_with (fail)
  refine (viewed_calls _).mono ?_
  rintro e w3 ⟨rfl, hb3⟩
  have HB3 := Lib.hid (HB2.out.trans (hb3.mono HB2.out.size))
  have HY3 := Lib.hid (HY2.out.stays (keeps_of_below hb3))
  have HRV3 := Lib.hid (HRV.out.stays (keeps_of_below hb3))
  have HOV3 := Lib.hid (HOV.out.stays (keeps_of_below hb3))
  clear hb3
  go_wp2_with (fail)
  refine (begins_calls x m _ _ _ (HX.out _ HB3.out) (HMM.out _ HB3.out)).mono ?_
  rintro e w4 ⟨rfl, hb4⟩
  rw [HBG.out]
  have HB4 := Lib.hid (HB3.out.trans (hb4.mono HB3.out.size))
  have HY4 := Lib.hid (HY3.out.stays (keeps_of_below hb4))
  have HRV4 := Lib.hid (HRV3.out.stays (keeps_of_below hb4))
  have HOV4 := Lib.hid (HOV3.out.stays (keeps_of_below hb4))
  clear hb4
  have HTK : Hid (Evs w4 (m.take x.length) (.slice p3 x.length c3)) := SliceOf.take (HMM.out _ HB4.out) x.length hle
  have hmin : min (x.length : Int) (m.length : Int) = x.length := by omega
  have hmin2 : min x.length m.length = x.length := by omega
  go_wp2_with (fail)
  refine (bare_calls x (m.take x.length) _ _ _ (HX.out _ HB4.out) HTK.out).mono ?_
  rintro e w5 ⟨rfl, hb5⟩
  have hbb : (bareEq x (m.take x.length) != bareEq x (m.take x.length)) = false := bne_self_eq_false _
  have HB5 := Lib.hid (HB4.out.trans (hb5.mono HB4.out.size))
  have HY5 := Lib.hid (HY4.out.stays (keeps_of_below hb5))
  have HRV5 := Lib.hid (HRV4.out.stays (keeps_of_below hb5))
  have HOV5 := Lib.hid (HOV4.out.stays (keeps_of_below hb5))
  clear hb5 hmin hmin2
  go_wp2
  go_loopw [15, 16, 63] (fun r o i ws => ∃ (k : Nat) (wo : World) (rv ov : Value), k ≤ x.length ∧ i = .int .i64 k ∧ wo = ws ∧ rv = r ∧ ov = o ∧ Hid (Below w5.heap.size w5 wo) ∧ Hid (wo.ownsRow w5.heap.size 52 3 rv (relTo x k).length ((relTo x k).flatMap evCells)) ∧ Hid (wo.ownsRow w5.heap.size 52 3 ov (othTo x k).length ((othTo x k).flatMap evCells)) ∧ Hid (ApartV rv ov)) (fun _ _ i _ => x.length - (intOf i).toNat)
  case atStart => exact ⟨0, _, _, _, Nat.zero_le _, rfl, rfl, rfl, rfl, Below.refl _ _, World.ownsRow_nil _ _ _ _, World.ownsRow_nil _ _ _ _, fun q h => by cases h⟩
  case round =>
    obtain ⟨k, wo, rv, ov, hk, rfl, rfl, rfl, rfl, HB, HR, HO, HA⟩ := hrel
    have HBW : Hid (Below w.heap.size w wo) := HB5.out.trans (HB.out.mono HB5.out.size)
    by_cases hlt : k < x.length
    · obtain ⟨ul, g1, g2, g3, hul⟩ := HCE.out k hlt
      obtain ⟨_, _, kl, pl, rfl, _⟩ := hul.cells
      have hcell1 : wo.cell? ⟨b2, o2 + k * 3, none⟩ = some (.string x[k].1) := (HBW.out.cell (cell_lt g1)).trans g1
      have hcell2 : wo.cell? ⟨b2, o2 + k * 3 + 1, none⟩ = some (.int .i64 x[k].2.1) := (HBW.out.cell (cell_lt g2)).trans g2
      have hcell3 : wo.cell? ⟨b2, o2 + k * 3 + 2, none⟩ = some (.slice pl x[k].2.2.length kl) := (HBW.out.cell (cell_lt g3)).trans g3
      obtain rfl := HPP.out (by omega)
      obtain ⟨W1, eW⟩ : ∃ W1, wo.alloc (.cells #[.string x[k].1, .int .i64 x[k].2.1, .slice pl x[k].2.2.length kl] 52) = W1 := ⟨_, rfl⟩
      obtain ⟨z1, hW1, m1⟩ := boxes1 eW
      obtain ⟨W2, eW2⟩ : ∃ W2, (W1.alloc (.cells #[.string x[k].1, .int .i64 x[k].2.1, .slice none 0 0] 52)).setCell ⟨W1.heap.size, 2, none⟩ (.slice none 0 0) = W2 := ⟨_, rfl⟩
      have hW2 : Below W1.heap.size W1 W2 := by rw [← eW2]; exact ((Below.refl _ _).alloc (Nat.le_refl _) _).setCell (Nat.le_refl _) _
      have s4 : W2.cell? ⟨W1.heap.size, 0, none⟩ = some (.string x[k].1) := by rw [← eW2, World.cell?_setCell_other _ _ _ _ (by simp), alloc_cell_new _ _ _ _ _ rfl]; rfl
      have s5 : W2.cell? ⟨W1.heap.size, 1, none⟩ = some (.int .i64 x[k].2.1) := by rw [← eW2, World.cell?_setCell_other _ _ _ _ (by simp), alloc_cell_new _ _ _ _ _ rfl]; rfl
      have s6 : W2.cell? ⟨W1.heap.size, 2, none⟩ = some (.slice none 0 0) := by rw [← eW2]; exact World.cell?_setCell_same _ _ _ ((alloc_cell_new _ _ _ _ _ rfl).trans rfl)
      have r1 := m1 0
      have r2 := m1 1
      simp only [List.getElem?_toArray, List.getElem?_cons_zero, List.getElem?_cons_succ] at r1 r2
      have s1 : W2.cell? ⟨wo.heap.size, 0, none⟩ = _ := (hW2.cell (cell_lt r1)).trans r1
      have HB1 : Hid (Below w5.heap.size w5 W2) := HB.out.trans ((hW1.trans (hW2.mono hW1.size)).mono HB.out.size)
      have hR1 := own_below HR.out (hW1.trans (hW2.mono hW1.size))
      have hO1 := own_below HO.out (hW1.trans (hW2.mono hW1.size))
      have hle1 := relTo_le x k
      have hle2 := othTo_le x k
      have hsz1 := HB1.out.size
      clear g1 g2 g3 hul m1 hW1 z1 hW2
      cases hq : isRel x[k] with
      | true =>
        have hx : x[k].1 = ByteArray.empty := eq_of_beq hq
        have HH := Lib.hid (rel_hit hlt hq)
        have q1 : x[k].1.toList = [] := by rw [hx, Lib.toList_data]; rfl
        have q2 : x[k].1.toList.isEmpty = true := by rw [q1]; rfl
        have HO1 := Lib.hid hO1
        clear hq hx hO1
        go_wp2_with (at_builtin; refine wpList_append_own_at _ rfl _ _ 43 rfl w5.heap.size 52 t0 (.agg #[.string ByteArray.empty, .int .i64 0, .slice none 0 0]) 3 48 Tryd.underlying43 hi hz0 hz1 hz2 rfl (by decide) _ _ _ rfl (hR1.alloc _) ⟨W2.heap.size, 0, none⟩ 1 1 (evCells x[k]) rfl rfl ?c1 ?c2 ?c3 ?c4 ?c5 ?_)
        case c1 =>
          intro j u hj
          match j, hj with
          | 0, hj => simp [evCells] at hj; subst hj; simp [Addr.add]
          | 1, hj => simp [evCells] at hj; subst hj; simp [Addr.add]
          | 2, hj => simp [evCells] at hj; subst hj; simp [Addr.add]
        case c2 => intro u hu; simp [evCells] at hu; rcases hu with rfl | rfl | rfl <;> rfl
        case c3 => unfold maxLen; omega
        case c4 => omega
        case c5 => first | omega | (simp; omega)
        · intro v' w6 hown' hgrow _ hat
          have HAP : Hid (ApartV v' ov) := apart_grown HO1.out HA.out (by omega) hat
          have HOO : Hid (w6.ownsRow w5.heap.size 52 3 ov (othTo x k).length ((othTo x k).flatMap evCells)) := own_apart (HO1.out.alloc _) HA.out hgrow
          clear hat s1 s4 s5 s6
          go_wp2
          go_roundw
          case rel =>
            refine ⟨k + 1, _, _, _, by omega, by go_num, rfl, rfl, rfl, (HB1.out.alloc HB1.out.size _).grown hgrow (by simp; omega) (fun q hq => (hR1.lt q hq).1), ?_, ?_, HAP.out⟩
            · unfold Hid
              rw [HH.out.1, List.length_append, List.flatMap_append, List.flatMap_cons, List.flatMap_nil, List.append_nil]
              exact hown'
            · unfold Hid
              rw [HH.out.2]
              exact HOO.out
          case measure => simp [intOf]; omega
      | false =>
        have HH := Lib.hid (rel_miss hlt hq)
        have hne : x[k].1 ≠ ByteArray.empty := fun e => by rw [isRel, e] at hq; simp at hq
        have hne2 : x[k].1.toList ≠ [] := fun e => hne (txt_ext (by rw [Lib.toList_data] at e; exact e))
        have q1 : ¬ x[k].1.toList = [] := hne2
        have q2 : x[k].1.toList.isEmpty = false := by
          cases h : x[k].1.toList with
          | nil => exact absurd h hne2
          | cons => rfl
        have HR1 := Lib.hid hR1
        clear hq hne hne2 hR1
        go_wp2_with (at_builtin; refine wpList_append_own_at _ rfl _ _ 43 rfl w5.heap.size 52 t0 (.agg #[.string ByteArray.empty, .int .i64 0, .slice none 0 0]) 3 48 Tryd.underlying43 hi hz0 hz1 hz2 rfl (by decide) _ _ _ rfl (hO1.alloc _) ⟨W2.heap.size, 0, none⟩ 1 1 (evCells x[k]) rfl rfl ?c1 ?c2 ?c3 ?c4 ?c5 ?_)
        case c1 =>
          intro j u hj
          match j, hj with
          | 0, hj => simp [evCells] at hj; subst hj; simp [Addr.add]
          | 1, hj => simp [evCells] at hj; subst hj; simp [Addr.add]
          | 2, hj => simp [evCells] at hj; subst hj; simp [Addr.add]
        case c2 => intro u hu; simp [evCells] at hu; rcases hu with rfl | rfl | rfl <;> rfl
        case c3 => unfold maxLen; omega
        case c4 => omega
        case c5 => first | omega | (simp; omega)
        · intro v' w6 hown' hgrow _ hat
          have HAP : Hid (ApartV v' rv) := apart_grown HR1.out HA.out.symm (by omega) hat
          have HOO : Hid (w6.ownsRow w5.heap.size 52 3 rv (relTo x k).length ((relTo x k).flatMap evCells)) := own_apart (HR1.out.alloc _) HA.out.symm hgrow
          clear hat s1 s4 s5 s6
          go_wp2
          go_roundw
          case rel =>
            refine ⟨k + 1, _, _, _, by omega, by go_num, rfl, rfl, rfl, (HB1.out.alloc HB1.out.size _).grown hgrow (by simp; omega) (fun q hq => (hO1.lt q hq).1), ?_, ?_, HAP.out.symm⟩
            · unfold Hid
              rw [HH.out.1]
              exact HOO.out
            · unfold Hid
              rw [HH.out.2, List.length_append, List.flatMap_append, List.flatMap_cons, List.flatMap_nil, List.append_nil]
              exact hown'
          case measure => simp [intOf]; omega
    · obtain rfl : k = x.length := by omega
      have hRv := own_evs HR.out
      have hOv := own_evs HO.out
      obtain ⟨bR, oR, cR, pR, rfl, _⟩ := hRv.cells
      obtain ⟨bO, oO, cO, pO, rfl, _⟩ := hOv.cells
      have HRW := Lib.hid hRv
      have HOW := Lib.hid hOv
      have HE1 := Lib.hid (eqEv_calls ((relTo x x.length).map bareEv) _ _ wo (HRV5.out.stays (keeps_of_below HB.out)) HRW.out (bare_map _))
      clear hRv hOv HR HO HA
      simp only [List.length_map] at HE1
      go_wp2_with (fail)
      refine HE1.out.mono ?_
      rintro e w6 ⟨rfl, hb6⟩
      have HB56 := Lib.hid (HB.out.trans (hb6.mono HB.out.size))
      have HE2 := Lib.hid (eqEv_calls ((othTo x x.length).map bareEv) _ _ w6 (HOV5.out.stays (keeps_of_below HB56.out)) (HOW.out.stays (keeps_of_below hb6)) (bare_map _))
      simp only [List.length_map] at HE2
      clear hb6
      go_wp2_with (fail)
      refine HE2.out.mono ?_
      rintro e w7 ⟨rfl, hb7⟩
      have HB57 := Lib.hid (HB56.out.trans (hb7.mono HB56.out.size))
      have HB7 := Lib.hid (HB5.out.trans (HB57.out.mono HB5.out.size))
      have HY7 := Lib.hid (HY5.out.stays (keeps_of_below HB57.out))
      clear hb7
      go_wp2_with (fail)
      refine (HCK.out _ HB7.out).mono ?_
      rintro e w8 ⟨rfl, hb8⟩
      rw [HC.out]
      have HB8 := Lib.hid (HB7.out.trans (hb8.mono HB7.out.size))
      clear hb8
      go_wp2_with (fail)
      refine (HCON.out _ HB8.out).mono ?_
      rintro e w' ⟨rfl, rfl⟩
      rw [HW.out]
      go_wp2
      go_loopw [20, 110] (fun b i ws => ∃ (k : Nat) (wo : World), k ≤ x.length ∧ i = .int .i64 k ∧ b = .int .i64 5 ∧ wo = ws ∧ Hid (Below w.heap.size w wo)) (fun _ i _ => x.length - (intOf i).toNat)
      case atStart => exact ⟨0, _, Nat.zero_le _, rfl, rfl, rfl, HB8.out⟩
      case round =>
        obtain ⟨k, wo, hk, rfl, rfl, rfl, HBB⟩ := hrel
        by_cases hlt : k < x.length
        · obtain ⟨ul, g1, g2, g3, hul⟩ := HCE.out k hlt
          obtain ⟨_, _, kl, pl, rfl, _⟩ := hul.cells
          have hcell1 : wo.cell? ⟨b2, o2 + k * 3, none⟩ = some (.string x[k].1) := (HBB.out.cell (cell_lt g1)).trans g1
          have hcell2 : wo.cell? ⟨b2, o2 + k * 3 + 1, none⟩ = some (.int .i64 x[k].2.1) := (HBB.out.cell (cell_lt g2)).trans g2
          have hcell3 : wo.cell? ⟨b2, o2 + k * 3 + 2, none⟩ = some (.slice pl x[k].2.2.length kl) := (HBB.out.cell (cell_lt g3)).trans g3
          obtain rfl := HPP.out (by omega)
          have HBX : Hid (Below w.heap.size w (wo.alloc (.cells #[.string x[k].1, .int .i64 x[k].2.1, .slice pl x[k].2.2.length kl] 52))) := HBB.out.alloc HBB.out.size _
          clear g1 g2 g3 hul
          go_wp2
          go_ret
          exact ⟨rfl, HBX.out⟩
        · go_wp2
          go_ret
          exact ⟨rfl, HBB.out⟩

set_option maxHeartbeats 4000000 in
set_option maxRecDepth 100000 in
theorem viewSeen_le_ok (l : List Txt) (acts : List (Txt × Txt)) (who : Txt) (x m : List Evt) (v u t s : Value) (mx : Int) (w : World) (hv : Strs w l v) (hu : Prs w acts u) (ht : Evs w x t) (hs : Evs w m s) (hl : okList okTxt l) (ho : okList (okBoth okTxt okTxt) acts) (hxo : okList okEvt x) (hm : w.cell? ⟨0, 0, none⟩ = some (.int .i64 mx)) (hn : x.length * 48 ≤ 140737488351232) (hle : x.length ≤ m.length) (hmany : ¬ 3000 < x.length) (hc : checkC l acts = 0) (hw : has l who = true) :
    Calls Tryd.prog 5 #[v, u, .string who, t, s] w fun e w' => e = .returned (.bool true) ∧ Below w.heap.size w w' := by
  have hv0 := hv
  have hu0 := hu
  have ht0 := ht
  have hs0 := hs
  obtain ⟨b0, o0, c0, p0, rfl, _⟩ := hv.cells
  obtain ⟨b1, o1, c1, p1, rfl, _⟩ := hu.cells
  obtain ⟨b2, o2, c2, p2, rfl, hlc2, hcm2, hp2, hcells2⟩ := ht.cells
  obtain ⟨b3, o3, c3, p3, rfl, hlc3, hcm3, _⟩ := hs.cells
  obtain ⟨t0, hi, hz0, hz1, hz2⟩ := info_parts Tryd.info_event
  have HV : Hid (∀ W, Below w.heap.size w W → Strs W l (.slice p0 l.length c0)) := fun W h => hv0.stays (keeps_of_below h)
  have HU : Hid (∀ W, Below w.heap.size w W → Prs W acts (.slice p1 acts.length c1)) := fun W h => hu0.stays (keeps_of_below h)
  have HX : Hid (∀ W, Below w.heap.size w W → Evs W x (.slice p2 x.length c2)) := fun W h => ht0.stays (keeps_of_below h)
  have HMM : Hid (∀ W, Below w.heap.size w W → Evs W m (.slice p3 m.length c3)) := fun W h => hs0.stays (keeps_of_below h)
  have HPP := Lib.hid hp2
  have HCE := Lib.hid hcells2
  have HSN : Hid (Calls Tryd.prog 21 #[.slice p0 l.length c0, .slice p1 acts.length c1, .string who, .slice p2 x.length c2] w fun e w' => ∃ y, e = .returned (.tuple #[y, .int .i64 (seenE l acts who x)]) ∧ Evs w' (seenR l acts who x) y ∧ Below w.heap.size w w') :=
    seen_calls l acts who x _ _ _ w hv0 hu0 ht0 hl hxo
  have HCK : Hid (∀ W, Below w.heap.size w W → Calls Tryd.prog 9 #[.slice p0 l.length c0, .slice p1 acts.length c1] W fun e w' => e = .returned (.int .i64 (checkC l acts)) ∧ Below W.heap.size W w') := fun W h =>
    refCheck_calls l acts _ _ mx W (HV.out W h) (HU.out W h) hl ho ((h.cell (cell_lt hm)).trans hm)
  have HCON : Hid (∀ W, Below w.heap.size w W → Calls Tryd.prog 19 #[.slice p0 l.length c0, .string who] W fun e w' => e = .returned (.bool (has l who)) ∧ W = w') := fun W h => contains_calls l who _ W (HV.out W h)
  have HCL : Hid (∀ W y vy, Below w.heap.size w W → Lbl W y vy → Calls Tryd.prog 28 #[.slice p0 l.length c0, vy] W fun e w' => e = .returned (.int .i64 (labErr l y)) ∧ Below W.heap.size W w') := fun W y vy h hy =>
    refLabel_calls l y _ _ W (HV.out W h) hy
  clear hv hu ht hs hv0 hu0 ht0 hs0 hp2 hcells2 hm hl ho hxo
  have hbig : ¬ 3000 < (x.length : Int) := by omega
  have HLB : Hid (∀ k (hk : k < x.length), labErr l x[k].2.2 ≠ 0 → (∀ j (hj : j < x.length), j < k → labErr l x[j].2.2 = 0) → seenE l acts who x = labErr l x[k].2.2 ∧ seenR l acts who x = []) := fun k hk h1 h2 => seen_label hmany hc hw hk h1 h2
  have HAL : Hid ((∀ j (hj : j < x.length), labErr l x[j].2.2 = 0) → seenE l acts who x = 0 ∧ seenR l acts who x = seenTo l acts who x x.length) := fun h => seen_all hmany hc hw h
  have HSB : Hid (∀ y, labErr l y = 0 → seesB l acts who y = has (readsL (actsF acts) l y) who) := fun y hy => sees_reads hc hw hy
  have HRO : Hid (∀ W y vy, Below w.heap.size w W → Lbl W y vy → labErr l y = 0 → Calls Tryd.prog 29 #[.slice p0 l.length c0, .slice p1 acts.length c1, vy] W fun e w' => ∃ z, e = .returned z ∧ Strs w' (readsL (actsF acts) l y) z ∧ Below W.heap.size W w') := fun W y vy h hy h0 =>
    refReaders_calls l acts y _ _ _ W (HV.out W h) (HU.out W h) hy (checkC_zero hc).2.1 (checkC_zero hc).1 (fun p hp => ((labErr_zero h0).2 p hp).1)
  have HC := Lib.hid hc
  have HW := Lib.hid hw
  clear hc hw hmany
  have HBG : Hid (beginsB x m = bareEq x (m.take x.length)) := by unfold Hid beginsB; simp [hle]
  have hle1 : (x.length : Int) ≤ (m.length : Int) := by omega
  go_enter Tryd.func5, Tryd.ntmps5
  go_wp2_with (fail)
  refine HSN.out.mono ?_
  rintro e w1 ⟨y, rfl, hy, hb1⟩
  obtain ⟨by_, oy, cy, py, rfl, _⟩ := hy.cells
  have HY := Lib.hid hy
  have HB1 := Lib.hid hb1
  clear hy hb1
  go_wp2_with (fail)
  refine (released_calls x _ _ (HX.out _ HB1.out) hn).mono ?_
  rintro e w2 ⟨rv, ov, rfl, hrv, hov, hb2⟩
  obtain ⟨br, or_, cr, pr, rfl, _⟩ := hrv.cells
  obtain ⟨bo, oo, co, po, rfl, _⟩ := hov.cells
  have HB2 := Lib.hid (HB1.out.trans (hb2.mono HB1.out.size))
  have HY2 := Lib.hid (HY.out.stays (keeps_of_below hb2))
  have HRV := Lib.hid hrv
  have HOV := Lib.hid hov
  clear hb2 hrv hov
  go_wp2_with (fail)
  refine (viewed_calls _).mono ?_
  rintro e w3 ⟨rfl, hb3⟩
  have HB3 := Lib.hid (HB2.out.trans (hb3.mono HB2.out.size))
  have HY3 := Lib.hid (HY2.out.stays (keeps_of_below hb3))
  have HRV3 := Lib.hid (HRV.out.stays (keeps_of_below hb3))
  have HOV3 := Lib.hid (HOV.out.stays (keeps_of_below hb3))
  clear hb3
  go_wp2_with (fail)
  refine (begins_calls x m _ _ _ (HX.out _ HB3.out) (HMM.out _ HB3.out)).mono ?_
  rintro e w4 ⟨rfl, hb4⟩
  rw [HBG.out]
  have HB4 := Lib.hid (HB3.out.trans (hb4.mono HB3.out.size))
  have HY4 := Lib.hid (HY3.out.stays (keeps_of_below hb4))
  have HRV4 := Lib.hid (HRV3.out.stays (keeps_of_below hb4))
  have HOV4 := Lib.hid (HOV3.out.stays (keeps_of_below hb4))
  clear hb4
  have HTK : Hid (Evs w4 (m.take x.length) (.slice p3 x.length c3)) := SliceOf.take (HMM.out _ HB4.out) x.length hle
  have hmin : min (x.length : Int) (m.length : Int) = x.length := by omega
  have hmin2 : min x.length m.length = x.length := by omega
  go_wp2_with (fail)
  refine (bare_calls x (m.take x.length) _ _ _ (HX.out _ HB4.out) HTK.out).mono ?_
  rintro e w5 ⟨rfl, hb5⟩
  have hbb : (bareEq x (m.take x.length) != bareEq x (m.take x.length)) = false := bne_self_eq_false _
  have HB5 := Lib.hid (HB4.out.trans (hb5.mono HB4.out.size))
  have HY5 := Lib.hid (HY4.out.stays (keeps_of_below hb5))
  have HRV5 := Lib.hid (HRV4.out.stays (keeps_of_below hb5))
  have HOV5 := Lib.hid (HOV4.out.stays (keeps_of_below hb5))
  clear hb5 hmin hmin2
  go_wp2
  go_loopw [15, 16, 63] (fun r o i ws => ∃ (k : Nat) (wo : World) (rv ov : Value), k ≤ x.length ∧ i = .int .i64 k ∧ wo = ws ∧ rv = r ∧ ov = o ∧ Hid (Below w5.heap.size w5 wo) ∧ Hid (wo.ownsRow w5.heap.size 52 3 rv (relTo x k).length ((relTo x k).flatMap evCells)) ∧ Hid (wo.ownsRow w5.heap.size 52 3 ov (othTo x k).length ((othTo x k).flatMap evCells)) ∧ Hid (ApartV rv ov)) (fun _ _ i _ => x.length - (intOf i).toNat)
  case atStart => exact ⟨0, _, _, _, Nat.zero_le _, rfl, rfl, rfl, rfl, Below.refl _ _, World.ownsRow_nil _ _ _ _, World.ownsRow_nil _ _ _ _, fun q h => by cases h⟩
  case round =>
    obtain ⟨k, wo, rv, ov, hk, rfl, rfl, rfl, rfl, HB, HR, HO, HA⟩ := hrel
    have HBW : Hid (Below w.heap.size w wo) := HB5.out.trans (HB.out.mono HB5.out.size)
    by_cases hlt : k < x.length
    · obtain ⟨ul, g1, g2, g3, hul⟩ := HCE.out k hlt
      obtain ⟨_, _, kl, pl, rfl, _⟩ := hul.cells
      have hcell1 : wo.cell? ⟨b2, o2 + k * 3, none⟩ = some (.string x[k].1) := (HBW.out.cell (cell_lt g1)).trans g1
      have hcell2 : wo.cell? ⟨b2, o2 + k * 3 + 1, none⟩ = some (.int .i64 x[k].2.1) := (HBW.out.cell (cell_lt g2)).trans g2
      have hcell3 : wo.cell? ⟨b2, o2 + k * 3 + 2, none⟩ = some (.slice pl x[k].2.2.length kl) := (HBW.out.cell (cell_lt g3)).trans g3
      obtain rfl := HPP.out (by omega)
      obtain ⟨W1, eW⟩ : ∃ W1, wo.alloc (.cells #[.string x[k].1, .int .i64 x[k].2.1, .slice pl x[k].2.2.length kl] 52) = W1 := ⟨_, rfl⟩
      obtain ⟨z1, hW1, m1⟩ := boxes1 eW
      obtain ⟨W2, eW2⟩ : ∃ W2, (W1.alloc (.cells #[.string x[k].1, .int .i64 x[k].2.1, .slice none 0 0] 52)).setCell ⟨W1.heap.size, 2, none⟩ (.slice none 0 0) = W2 := ⟨_, rfl⟩
      have hW2 : Below W1.heap.size W1 W2 := by rw [← eW2]; exact ((Below.refl _ _).alloc (Nat.le_refl _) _).setCell (Nat.le_refl _) _
      have s4 : W2.cell? ⟨W1.heap.size, 0, none⟩ = some (.string x[k].1) := by rw [← eW2, World.cell?_setCell_other _ _ _ _ (by simp), alloc_cell_new _ _ _ _ _ rfl]; rfl
      have s5 : W2.cell? ⟨W1.heap.size, 1, none⟩ = some (.int .i64 x[k].2.1) := by rw [← eW2, World.cell?_setCell_other _ _ _ _ (by simp), alloc_cell_new _ _ _ _ _ rfl]; rfl
      have s6 : W2.cell? ⟨W1.heap.size, 2, none⟩ = some (.slice none 0 0) := by rw [← eW2]; exact World.cell?_setCell_same _ _ _ ((alloc_cell_new _ _ _ _ _ rfl).trans rfl)
      have r1 := m1 0
      have r2 := m1 1
      simp only [List.getElem?_toArray, List.getElem?_cons_zero, List.getElem?_cons_succ] at r1 r2
      have s1 : W2.cell? ⟨wo.heap.size, 0, none⟩ = _ := (hW2.cell (cell_lt r1)).trans r1
      have HB1 : Hid (Below w5.heap.size w5 W2) := HB.out.trans ((hW1.trans (hW2.mono hW1.size)).mono HB.out.size)
      have hR1 := own_below HR.out (hW1.trans (hW2.mono hW1.size))
      have hO1 := own_below HO.out (hW1.trans (hW2.mono hW1.size))
      have hle1 := relTo_le x k
      have hle2 := othTo_le x k
      have hsz1 := HB1.out.size
      clear g1 g2 g3 hul m1 hW1 z1 hW2
      cases hq : isRel x[k] with
      | true =>
        have hx : x[k].1 = ByteArray.empty := eq_of_beq hq
        have HH := Lib.hid (rel_hit hlt hq)
        have q1 : x[k].1.toList = [] := by rw [hx, Lib.toList_data]; rfl
        have q2 : x[k].1.toList.isEmpty = true := by rw [q1]; rfl
        have HO1 := Lib.hid hO1
        clear hq hx hO1
        go_wp2_with (at_builtin; refine wpList_append_own_at _ rfl _ _ 43 rfl w5.heap.size 52 t0 (.agg #[.string ByteArray.empty, .int .i64 0, .slice none 0 0]) 3 48 Tryd.underlying43 hi hz0 hz1 hz2 rfl (by decide) _ _ _ rfl (hR1.alloc _) ⟨W2.heap.size, 0, none⟩ 1 1 (evCells x[k]) rfl rfl ?c1 ?c2 ?c3 ?c4 ?c5 ?_)
        case c1 =>
          intro j u hj
          match j, hj with
          | 0, hj => simp [evCells] at hj; subst hj; simp [Addr.add]
          | 1, hj => simp [evCells] at hj; subst hj; simp [Addr.add]
          | 2, hj => simp [evCells] at hj; subst hj; simp [Addr.add]
        case c2 => intro u hu; simp [evCells] at hu; rcases hu with rfl | rfl | rfl <;> rfl
        case c3 => unfold maxLen; omega
        case c4 => omega
        case c5 => first | omega | (simp; omega)
        · intro v' w6 hown' hgrow _ hat
          have HAP : Hid (ApartV v' ov) := apart_grown HO1.out HA.out (by omega) hat
          have HOO : Hid (w6.ownsRow w5.heap.size 52 3 ov (othTo x k).length ((othTo x k).flatMap evCells)) := own_apart (HO1.out.alloc _) HA.out hgrow
          clear hat s1 s4 s5 s6
          go_wp2
          go_roundw
          case rel =>
            refine ⟨k + 1, _, _, _, by omega, by go_num, rfl, rfl, rfl, (HB1.out.alloc HB1.out.size _).grown hgrow (by simp; omega) (fun q hq => (hR1.lt q hq).1), ?_, ?_, HAP.out⟩
            · unfold Hid
              rw [HH.out.1, List.length_append, List.flatMap_append, List.flatMap_cons, List.flatMap_nil, List.append_nil]
              exact hown'
            · unfold Hid
              rw [HH.out.2]
              exact HOO.out
          case measure => simp [intOf]; omega
      | false =>
        have HH := Lib.hid (rel_miss hlt hq)
        have hne : x[k].1 ≠ ByteArray.empty := fun e => by rw [isRel, e] at hq; simp at hq
        have hne2 : x[k].1.toList ≠ [] := fun e => hne (txt_ext (by rw [Lib.toList_data] at e; exact e))
        have q1 : ¬ x[k].1.toList = [] := hne2
        have q2 : x[k].1.toList.isEmpty = false := by
          cases h : x[k].1.toList with
          | nil => exact absurd h hne2
          | cons => rfl
        have HR1 := Lib.hid hR1
        clear hq hne hne2 hR1
        go_wp2_with (at_builtin; refine wpList_append_own_at _ rfl _ _ 43 rfl w5.heap.size 52 t0 (.agg #[.string ByteArray.empty, .int .i64 0, .slice none 0 0]) 3 48 Tryd.underlying43 hi hz0 hz1 hz2 rfl (by decide) _ _ _ rfl (hO1.alloc _) ⟨W2.heap.size, 0, none⟩ 1 1 (evCells x[k]) rfl rfl ?c1 ?c2 ?c3 ?c4 ?c5 ?_)
        case c1 =>
          intro j u hj
          match j, hj with
          | 0, hj => simp [evCells] at hj; subst hj; simp [Addr.add]
          | 1, hj => simp [evCells] at hj; subst hj; simp [Addr.add]
          | 2, hj => simp [evCells] at hj; subst hj; simp [Addr.add]
        case c2 => intro u hu; simp [evCells] at hu; rcases hu with rfl | rfl | rfl <;> rfl
        case c3 => unfold maxLen; omega
        case c4 => omega
        case c5 => first | omega | (simp; omega)
        · intro v' w6 hown' hgrow _ hat
          have HAP : Hid (ApartV v' rv) := apart_grown HR1.out HA.out.symm (by omega) hat
          have HOO : Hid (w6.ownsRow w5.heap.size 52 3 rv (relTo x k).length ((relTo x k).flatMap evCells)) := own_apart (HR1.out.alloc _) HA.out.symm hgrow
          clear hat s1 s4 s5 s6
          go_wp2
          go_roundw
          case rel =>
            refine ⟨k + 1, _, _, _, by omega, by go_num, rfl, rfl, rfl, (HB1.out.alloc HB1.out.size _).grown hgrow (by simp; omega) (fun q hq => (hO1.lt q hq).1), ?_, ?_, HAP.out.symm⟩
            · unfold Hid
              rw [HH.out.1]
              exact HOO.out
            · unfold Hid
              rw [HH.out.2, List.length_append, List.flatMap_append, List.flatMap_cons, List.flatMap_nil, List.append_nil]
              exact hown'
          case measure => simp [intOf]; omega
    · obtain rfl : k = x.length := by omega
      have hRv := own_evs HR.out
      have hOv := own_evs HO.out
      obtain ⟨bR, oR, cR, pR, rfl, _⟩ := hRv.cells
      obtain ⟨bO, oO, cO, pO, rfl, _⟩ := hOv.cells
      have HRW := Lib.hid hRv
      have HOW := Lib.hid hOv
      have HE1 := Lib.hid (eqEv_calls ((relTo x x.length).map bareEv) _ _ wo (HRV5.out.stays (keeps_of_below HB.out)) HRW.out (bare_map _))
      clear hRv hOv HR HO HA
      simp only [List.length_map] at HE1
      go_wp2_with (fail)
      refine HE1.out.mono ?_
      rintro e w6 ⟨rfl, hb6⟩
      have HB56 := Lib.hid (HB.out.trans (hb6.mono HB.out.size))
      have HE2 := Lib.hid (eqEv_calls ((othTo x x.length).map bareEv) _ _ w6 (HOV5.out.stays (keeps_of_below HB56.out)) (HOW.out.stays (keeps_of_below hb6)) (bare_map _))
      simp only [List.length_map] at HE2
      clear hb6
      go_wp2_with (fail)
      refine HE2.out.mono ?_
      rintro e w7 ⟨rfl, hb7⟩
      have HB57 := Lib.hid (HB56.out.trans (hb7.mono HB56.out.size))
      have HB7 := Lib.hid (HB5.out.trans (HB57.out.mono HB5.out.size))
      have HY7 := Lib.hid (HY5.out.stays (keeps_of_below HB57.out))
      clear hb7
      go_wp2_with (fail)
      refine (HCK.out _ HB7.out).mono ?_
      rintro e w8 ⟨rfl, hb8⟩
      rw [HC.out]
      have HB8 := Lib.hid (HB7.out.trans (hb8.mono HB7.out.size))
      have HY8 := Lib.hid (HY7.out.stays (keeps_of_below hb8))
      clear hb8
      go_wp2_with (fail)
      refine (HCON.out _ HB8.out).mono ?_
      rintro e w' ⟨rfl, rfl⟩
      rw [HW.out]
      go_wp2
      go_loopw [20, 21, 110] (fun b z i ws => ∃ (k : Nat) (wo : World) (zv : Value), k ≤ x.length ∧ i = .int .i64 k ∧ b = .int .i64 0 ∧ wo = ws ∧ zv = z ∧ Hid (Below w8.heap.size w8 wo) ∧ Hid (wo.ownsRow w8.heap.size 52 3 zv (seenTo l acts who x k).length (((x.take k).filter fun e => seesB l acts who e.2.2).flatMap evCells)) ∧ Hid (∀ j (hj : j < x.length), j < k → labErr l x[j].2.2 = 0)) (fun _ _ i _ => x.length - (intOf i).toNat)
      case atStart => exact ⟨0, _, _, Nat.zero_le _, rfl, rfl, rfl, rfl, Below.refl _ _, World.ownsRow_nil _ _ _ _, fun j _ hj => absurd hj (Nat.not_lt_zero _)⟩
      case round =>
        obtain ⟨k, wo, zv, hk, rfl, rfl, rfl, rfl, HBB, HZ, HN⟩ := hrel
        have HBW : Hid (Below w.heap.size w wo) := HB8.out.trans (HBB.out.mono HB8.out.size)
        by_cases hlt : k < x.length
        · obtain ⟨ul, g1, g2, g3, hul⟩ := HCE.out k hlt
          obtain ⟨_, _, kl, pl, rfl, _⟩ := hul.cells
          have hcell1 : wo.cell? ⟨b2, o2 + k * 3, none⟩ = some (.string x[k].1) := (HBW.out.cell (cell_lt g1)).trans g1
          have hcell2 : wo.cell? ⟨b2, o2 + k * 3 + 1, none⟩ = some (.int .i64 x[k].2.1) := (HBW.out.cell (cell_lt g2)).trans g2
          have hcell3 : wo.cell? ⟨b2, o2 + k * 3 + 2, none⟩ = some (.slice pl x[k].2.2.length kl) := (HBW.out.cell (cell_lt g3)).trans g3
          obtain rfl := HPP.out (by omega)
          obtain ⟨W1, eW⟩ : ∃ W1, wo.alloc (.cells #[.string x[k].1, .int .i64 x[k].2.1, .slice pl x[k].2.2.length kl] 52) = W1 := ⟨_, rfl⟩
          obtain ⟨z1, hW1, m1⟩ := boxes1 eW
          have r1 := m1 0
          have r2 := m1 1
          have r3 := m1 2
          simp only [List.getElem?_toArray, List.getElem?_cons_zero, List.getElem?_cons_succ] at r1 r2 r3
          have HR1 := Lib.hid r1
          have HR2 := Lib.hid r2
          have HR3 := Lib.hid r3
          have HB81 : Hid (Below w8.heap.size w8 W1) := HBB.out.trans (hW1.mono HBB.out.size)
          have HBW1 : Hid (Below w.heap.size w W1) := HBW.out.trans (hW1.mono HBW.out.size)
          have HZ1 := Lib.hid (own_below HZ.out hW1)
          have HUL : Hid (∀ W, Below w.heap.size w W → Lbl W x[k].2.2 (.slice pl x[k].2.2.length kl)) := fun W h => hul.stays (keeps_of_below h)
          clear g1 g2 g3 hul m1 hW1
          by_cases he : labErr l x[k].2.2 = 0
          · have HE := Lib.hid he
            have HSBK := Lib.hid (HSB.out _ he)
            have HN2 : Hid (∀ j (hj : j < x.length), j < k + 1 → labErr l x[j].2.2 = 0) := fun j hj h => by
              by_cases e : j = k
              · subst e; exact HE.out
              · exact HN.out j hj (by omega)
            clear he
            go_wp2_with (fail)
            refine (HCL.out _ _ _ HBW1.out (HUL.out _ HBW1.out)).mono ?_
            rintro e w9 ⟨rfl, hb9⟩
            rw [HE.out]
            have h9a : w9.cell? ⟨wo.heap.size, 2, none⟩ = _ := (hb9.cell (cell_lt HR3.out)).trans HR3.out
            have HBW9 : Hid (Below w.heap.size w w9) := HBW1.out.trans (hb9.mono HBW1.out.size)
            have HBB9 := Lib.hid hb9
            clear r1 r2 r3 hb9
            go_wp2_with (fail)
            refine (HRO.out _ _ _ HBW9.out (HUL.out _ HBW9.out) HE.out).mono ?_
            rintro e w10 ⟨zr, rfl, hzr, hb10⟩
            obtain ⟨bz, oz, cz, pz, rfl, _⟩ := hzr.cells
            have HZR := Lib.hid hzr
            have HBB10 : Hid (Below W1.heap.size W1 w10) := HBB9.out.trans (hb10.mono HBB9.out.size)
            have HB810 : Hid (Below w8.heap.size w8 w10) := HB81.out.trans (HBB10.out.mono HB81.out.size)
            clear hzr hb10 h9a
            go_wp2_with (fail)
            refine (contains_calls _ who _ _ HZR.out).mono ?_
            rintro e w' ⟨rfl, rfl⟩
            rw [← HSBK.out]
            cases hsb : seesB l acts who x[k].2.2 with
            | false =>
              have HSS : Hid (seenTo l acts who x (k + 1) = seenTo l acts who x k ∧ (x.take (k + 1)).filter (fun e => seesB l acts who e.2.2) = (x.take k).filter fun e => seesB l acts who e.2.2) := ⟨seenTo_miss hlt hsb, by rw [List.take_succ_eq_append_getElem hlt, List.filter_append]; simp [hsb]⟩
              have HZ10 := Lib.hid (own_below HZ1.out HBB10.out)
              clear hsb
              go_wp2
              go_roundw
              case rel => exact ⟨k + 1, _, _, by omega, by go_num, rfl, rfl, rfl, HB810.out, by unfold Hid; rw [HSS.out.1, HSS.out.2]; exact HZ10.out, HN2.out⟩
              case measure => simp [intOf]; omega
            | true =>
              have HSS : Hid (seenTo l acts who x (k + 1) = seenTo l acts who x k ++ [bareEv x[k]] ∧ (x.take (k + 1)).filter (fun e => seesB l acts who e.2.2) = (x.take k).filter (fun e => seesB l acts who e.2.2) ++ [x[k]]) := ⟨seenTo_hit hlt hsb, by rw [List.take_succ_eq_append_getElem hlt, List.filter_append]; simp [hsb]⟩
              have hZ10 := own_below HZ1.out HBB10.out
              have h10a : w10.cell? ⟨wo.heap.size, 0, none⟩ = _ := (HBB10.out.cell (cell_lt HR1.out)).trans HR1.out
              have h10b : w10.cell? ⟨wo.heap.size, 1, none⟩ = _ := (HBB10.out.cell (cell_lt HR2.out)).trans HR2.out
              have hle := seenTo_le l acts who x k
              have hsz := HB810.out.size
              clear hsb
              go_wp2_with (at_builtin; refine wpList_append_own _ rfl _ _ 43 rfl w8.heap.size 52 t0 (.agg #[.string ByteArray.empty, .int .i64 0, .slice none 0 0]) 3 48 Tryd.underlying43 hi hz0 hz1 hz2 rfl (by decide) _ _ _ rfl (hZ10.alloc _) ⟨w10.heap.size, 0, none⟩ 1 1 (evCells x[k]) rfl rfl ?c1 ?c2 ?c3 ?c4 ?c5 ?_)
              case c1 =>
                intro j u hj
                match j, hj with
                | 0, hj => simp [evCells] at hj; subst hj; simp [Addr.add]
                | 1, hj => simp [evCells] at hj; subst hj; simp [Addr.add]
                | 2, hj => simp [evCells] at hj; subst hj; simp [Addr.add]
              case c2 => intro u hu; simp [evCells] at hu; rcases hu with rfl | rfl | rfl <;> rfl
              case c3 => unfold maxLen; omega
              case c4 => omega
              case c5 => first | omega | (simp; omega)
              · intro v' w11 hown' hgrow _
                go_wp2
                go_roundw
                case rel =>
                  refine ⟨k + 1, _, _, by omega, by go_num, rfl, rfl, rfl, (HB810.out.alloc HB810.out.size _).grown hgrow (by simp; omega) (fun q hq => (hZ10.lt q hq).1), ?_, HN2.out⟩
                  unfold Hid
                  rw [HSS.out.1, HSS.out.2, List.length_append, List.flatMap_append, List.flatMap_cons, List.flatMap_nil, List.append_nil]
                  exact hown'
                case measure => simp [intOf]; omega
          · obtain ⟨hs1, hs2⟩ := HLB.out k hlt he HN.out
            have HS1 := Lib.hid hs1
            have hq1 : (labErr l x[k].2.2 != 0) = true := by simpa using he
            have hq2 : (labErr l x[k].2.2 == 0) = false := by simpa using he
            have hq3 : (seenE l acts who x == labErr l x[k].2.2) = true := by rw [hs1]; exact beq_self_eq_true _
            have hq5 : (seenR l acts who x).length = 0 := by rw [hs2]; rfl
            have hq4 : (((seenR l acts who x).length : Int) == 0) = true := by rw [hq5]; rfl
            clear he hs1 hs2 hq5
            go_wp2_with (fail)
            refine (HCL.out _ _ _ HBW1.out (HUL.out _ HBW1.out)).mono ?_
            rintro e w9 ⟨rfl, hb9⟩
            have HBW9 : Hid (Below w.heap.size w w9) := HBW1.out.trans (hb9.mono HBW1.out.size)
            clear r1 r2 r3 hb9
            go_wp2
            go_ret
            exact ⟨rfl, HBW9.out⟩
        · obtain rfl : k = x.length := by omega
          obtain ⟨hs1, hs2⟩ := HAL.out fun j hj => HN.out j hj hj
          have HS2 := Lib.hid hs2
          have hq3 : (seenE l acts who x == 0) = true := by rw [hs1]; rfl
          have hZv : Evs wo (seenTo l acts who x x.length) zv := SliceOf.of_rows HZ.out (ev_rows _ _)
          rw [← hs2] at hZv
          obtain ⟨bq, oq, cq, pq, rfl, _⟩ := hZv.cells
          have HE3 := Lib.hid (eqEv_calls (seenR l acts who x) _ _ wo (HY8.out.stays (keeps_of_below HBB.out)) hZv (by rw [hs2]; unfold seenTo; exact bare_map _))
          clear hs1 hs2 hZv HZ
          go_wp2_with (fail)
          refine HE3.out.mono ?_
          rintro e w12 ⟨rfl, hb12⟩
          have HB12 : Hid (Below w.heap.size w w12) := HBW.out.trans (hb12.mono HBW.out.size)
          clear hb12
          go_wp2
          go_ret
          exact ⟨rfl, HB12.out⟩

set_option maxHeartbeats 4000000 in
set_option maxRecDepth 100000 in
theorem viewSeen_gt_many (l : List Txt) (acts : List (Txt × Txt)) (who : Txt) (x m : List Evt) (v u t s : Value) (mx : Int) (w : World) (hv : Strs w l v) (hu : Prs w acts u) (ht : Evs w x t) (hs : Evs w m s) (hl : okList okTxt l) (ho : okList (okBoth okTxt okTxt) acts) (hxo : okList okEvt x) (hm : w.cell? ⟨0, 0, none⟩ = some (.int .i64 mx)) (hn : x.length * 48 ≤ 140737488351232) (hle : ¬ x.length ≤ m.length) (hmany : 3000 < x.length) :
    Calls Tryd.prog 5 #[v, u, .string who, t, s] w fun e w' => e = .returned (.bool true) ∧ Below w.heap.size w w' := by
  have hv0 := hv
  have hu0 := hu
  have ht0 := ht
  have hs0 := hs
  obtain ⟨b0, o0, c0, p0, rfl, _⟩ := hv.cells
  obtain ⟨b1, o1, c1, p1, rfl, _⟩ := hu.cells
  obtain ⟨b2, o2, c2, p2, rfl, hlc2, hcm2, hp2, hcells2⟩ := ht.cells
  obtain ⟨b3, o3, c3, p3, rfl, hlc3, hcm3, _⟩ := hs.cells
  obtain ⟨t0, hi, hz0, hz1, hz2⟩ := info_parts Tryd.info_event
  have HV : Hid (∀ W, Below w.heap.size w W → Strs W l (.slice p0 l.length c0)) := fun W h => hv0.stays (keeps_of_below h)
  have HU : Hid (∀ W, Below w.heap.size w W → Prs W acts (.slice p1 acts.length c1)) := fun W h => hu0.stays (keeps_of_below h)
  have HX : Hid (∀ W, Below w.heap.size w W → Evs W x (.slice p2 x.length c2)) := fun W h => ht0.stays (keeps_of_below h)
  have HMM : Hid (∀ W, Below w.heap.size w W → Evs W m (.slice p3 m.length c3)) := fun W h => hs0.stays (keeps_of_below h)
  have HPP := Lib.hid hp2
  have HCE := Lib.hid hcells2
  have HSN : Hid (Calls Tryd.prog 21 #[.slice p0 l.length c0, .slice p1 acts.length c1, .string who, .slice p2 x.length c2] w fun e w' => ∃ y, e = .returned (.tuple #[y, .int .i64 (seenE l acts who x)]) ∧ Evs w' (seenR l acts who x) y ∧ Below w.heap.size w w') :=
    seen_calls l acts who x _ _ _ w hv0 hu0 ht0 hl hxo
  have HCK : Hid (∀ W, Below w.heap.size w W → Calls Tryd.prog 9 #[.slice p0 l.length c0, .slice p1 acts.length c1] W fun e w' => e = .returned (.int .i64 (checkC l acts)) ∧ Below W.heap.size W w') := fun W h =>
    refCheck_calls l acts _ _ mx W (HV.out W h) (HU.out W h) hl ho ((h.cell (cell_lt hm)).trans hm)
  have HCON : Hid (∀ W, Below w.heap.size w W → Calls Tryd.prog 19 #[.slice p0 l.length c0, .string who] W fun e w' => e = .returned (.bool (has l who)) ∧ W = w') := fun W h => contains_calls l who _ W (HV.out W h)
  have HCL : Hid (∀ W y vy, Below w.heap.size w W → Lbl W y vy → Calls Tryd.prog 28 #[.slice p0 l.length c0, vy] W fun e w' => e = .returned (.int .i64 (labErr l y)) ∧ Below W.heap.size W w') := fun W y vy h hy =>
    refLabel_calls l y _ _ W (HV.out W h) hy
  clear hv hu ht hs hv0 hu0 ht0 hs0 hp2 hcells2 hm hl ho hxo
  have hbig : 3000 < (x.length : Int) := by omega
  have HSE := Lib.hid (seen_many (l := l) (acts := acts) (who := who) hmany).1
  have HSR := Lib.hid (seen_many (l := l) (acts := acts) (who := who) hmany).2
  clear hmany
  have HBG : Hid (beginsB x m = false) := by unfold Hid beginsB; simp [hle]
  have hle1 : ¬ (x.length : Int) ≤ (m.length : Int) := by omega
  go_enter Tryd.func5, Tryd.ntmps5
  go_wp2_with (fail)
  refine HSN.out.mono ?_
  rintro e w1 ⟨y, rfl, hy, hb1⟩
  rw [HSR.out] at hy
  rw [HSE.out]
  obtain ⟨by_, oy, cy, py, rfl, _⟩ := hy.cells
  have HY := Lib.hid hy
  have HB1 := Lib.hid hb1
  clear hy hb1
  go_wp2_with (fail)
  refine (released_calls x _ _ (HX.out _ HB1.out) hn).mono ?_
  rintro e w2 ⟨rv, ov, rfl, hrv, hov, hb2⟩
  obtain ⟨br, or_, cr, pr, rfl, _⟩ := hrv.cells
  obtain ⟨bo, oo, co, po, rfl, _⟩ := hov.cells
  have HB2 := Lib.hid (HB1.out.trans (hb2.mono HB1.out.size))
  have HY2 := Lib.hid (HY.out.stays (keeps_of_below hb2))
  have HRV := Lib.hid hrv
  have HOV := Lib.hid hov
  clear hb2 hrv hov
  go_wp2_with (fail)
  refine (viewed_calls _).mono ?_
  rintro e w3 ⟨rfl, hb3⟩
  have HB3 := Lib.hid (HB2.out.trans (hb3.mono HB2.out.size))
  have HY3 := Lib.hid (HY2.out.stays (keeps_of_below hb3))
  have HRV3 := Lib.hid (HRV.out.stays (keeps_of_below hb3))
  have HOV3 := Lib.hid (HOV.out.stays (keeps_of_below hb3))
  clear hb3
  go_wp2_with (fail)
  refine (begins_calls x m _ _ _ (HX.out _ HB3.out) (HMM.out _ HB3.out)).mono ?_
  rintro e w4 ⟨rfl, hb4⟩
  rw [HBG.out]
  have HB4 := Lib.hid (HB3.out.trans (hb4.mono HB3.out.size))
  have HY4 := Lib.hid (HY3.out.stays (keeps_of_below hb4))
  have HRV4 := Lib.hid (HRV3.out.stays (keeps_of_below hb4))
  have HOV4 := Lib.hid (HOV3.out.stays (keeps_of_below hb4))
  clear hb4
  obtain ⟨w5, rfl⟩ : ∃ w5, w5 = w4 := ⟨_, rfl⟩
  have HB5 := HB4
  have HY5 := HY4
  have HRV5 := HRV4
  have HOV5 := HOV4
  go_wp2
  go_loopw [15, 16, 63] (fun r o i ws => ∃ (k : Nat) (wo : World) (rv ov : Value), k ≤ x.length ∧ i = .int .i64 k ∧ wo = ws ∧ rv = r ∧ ov = o ∧ Hid (Below w5.heap.size w5 wo) ∧ Hid (wo.ownsRow w5.heap.size 52 3 rv (relTo x k).length ((relTo x k).flatMap evCells)) ∧ Hid (wo.ownsRow w5.heap.size 52 3 ov (othTo x k).length ((othTo x k).flatMap evCells)) ∧ Hid (ApartV rv ov)) (fun _ _ i _ => x.length - (intOf i).toNat)
  case atStart => exact ⟨0, _, _, _, Nat.zero_le _, rfl, rfl, rfl, rfl, Below.refl _ _, World.ownsRow_nil _ _ _ _, World.ownsRow_nil _ _ _ _, fun q h => by cases h⟩
  case round =>
    obtain ⟨k, wo, rv, ov, hk, rfl, rfl, rfl, rfl, HB, HR, HO, HA⟩ := hrel
    have HBW : Hid (Below w.heap.size w wo) := HB5.out.trans (HB.out.mono HB5.out.size)
    by_cases hlt : k < x.length
    · obtain ⟨ul, g1, g2, g3, hul⟩ := HCE.out k hlt
      obtain ⟨_, _, kl, pl, rfl, _⟩ := hul.cells
      have hcell1 : wo.cell? ⟨b2, o2 + k * 3, none⟩ = some (.string x[k].1) := (HBW.out.cell (cell_lt g1)).trans g1
      have hcell2 : wo.cell? ⟨b2, o2 + k * 3 + 1, none⟩ = some (.int .i64 x[k].2.1) := (HBW.out.cell (cell_lt g2)).trans g2
      have hcell3 : wo.cell? ⟨b2, o2 + k * 3 + 2, none⟩ = some (.slice pl x[k].2.2.length kl) := (HBW.out.cell (cell_lt g3)).trans g3
      obtain rfl := HPP.out (by omega)
      obtain ⟨W1, eW⟩ : ∃ W1, wo.alloc (.cells #[.string x[k].1, .int .i64 x[k].2.1, .slice pl x[k].2.2.length kl] 52) = W1 := ⟨_, rfl⟩
      obtain ⟨z1, hW1, m1⟩ := boxes1 eW
      obtain ⟨W2, eW2⟩ : ∃ W2, (W1.alloc (.cells #[.string x[k].1, .int .i64 x[k].2.1, .slice none 0 0] 52)).setCell ⟨W1.heap.size, 2, none⟩ (.slice none 0 0) = W2 := ⟨_, rfl⟩
      have hW2 : Below W1.heap.size W1 W2 := by rw [← eW2]; exact ((Below.refl _ _).alloc (Nat.le_refl _) _).setCell (Nat.le_refl _) _
      have s4 : W2.cell? ⟨W1.heap.size, 0, none⟩ = some (.string x[k].1) := by rw [← eW2, World.cell?_setCell_other _ _ _ _ (by simp), alloc_cell_new _ _ _ _ _ rfl]; rfl
      have s5 : W2.cell? ⟨W1.heap.size, 1, none⟩ = some (.int .i64 x[k].2.1) := by rw [← eW2, World.cell?_setCell_other _ _ _ _ (by simp), alloc_cell_new _ _ _ _ _ rfl]; rfl
      have s6 : W2.cell? ⟨W1.heap.size, 2, none⟩ = some (.slice none 0 0) := by rw [← eW2]; exact World.cell?_setCell_same _ _ _ ((alloc_cell_new _ _ _ _ _ rfl).trans rfl)
      have r1 := m1 0
      have r2 := m1 1
      simp only [List.getElem?_toArray, List.getElem?_cons_zero, List.getElem?_cons_succ] at r1 r2
      have s1 : W2.cell? ⟨wo.heap.size, 0, none⟩ = _ := (hW2.cell (cell_lt r1)).trans r1
      have HB1 : Hid (Below w5.heap.size w5 W2) := HB.out.trans ((hW1.trans (hW2.mono hW1.size)).mono HB.out.size)
      have hR1 := own_below HR.out (hW1.trans (hW2.mono hW1.size))
      have hO1 := own_below HO.out (hW1.trans (hW2.mono hW1.size))
      have hle1 := relTo_le x k
      have hle2 := othTo_le x k
      have hsz1 := HB1.out.size
      clear g1 g2 g3 hul m1 hW1 z1 hW2
      cases hq : isRel x[k] with
      | true =>
        have hx : x[k].1 = ByteArray.empty := eq_of_beq hq
        have HH := Lib.hid (rel_hit hlt hq)
        have q1 : x[k].1.toList = [] := by rw [hx, Lib.toList_data]; rfl
        have q2 : x[k].1.toList.isEmpty = true := by rw [q1]; rfl
        have HO1 := Lib.hid hO1
        clear hq hx hO1
        go_wp2_with (at_builtin; refine wpList_append_own_at _ rfl _ _ 43 rfl w5.heap.size 52 t0 (.agg #[.string ByteArray.empty, .int .i64 0, .slice none 0 0]) 3 48 Tryd.underlying43 hi hz0 hz1 hz2 rfl (by decide) _ _ _ rfl (hR1.alloc _) ⟨W2.heap.size, 0, none⟩ 1 1 (evCells x[k]) rfl rfl ?c1 ?c2 ?c3 ?c4 ?c5 ?_)
        case c1 =>
          intro j u hj
          match j, hj with
          | 0, hj => simp [evCells] at hj; subst hj; simp [Addr.add]
          | 1, hj => simp [evCells] at hj; subst hj; simp [Addr.add]
          | 2, hj => simp [evCells] at hj; subst hj; simp [Addr.add]
        case c2 => intro u hu; simp [evCells] at hu; rcases hu with rfl | rfl | rfl <;> rfl
        case c3 => unfold maxLen; omega
        case c4 => omega
        case c5 => first | omega | (simp; omega)
        · intro v' w6 hown' hgrow _ hat
          have HAP : Hid (ApartV v' ov) := apart_grown HO1.out HA.out (by omega) hat
          have HOO : Hid (w6.ownsRow w5.heap.size 52 3 ov (othTo x k).length ((othTo x k).flatMap evCells)) := own_apart (HO1.out.alloc _) HA.out hgrow
          clear hat s1 s4 s5 s6
          go_wp2
          go_roundw
          case rel =>
            refine ⟨k + 1, _, _, _, by omega, by go_num, rfl, rfl, rfl, (HB1.out.alloc HB1.out.size _).grown hgrow (by simp; omega) (fun q hq => (hR1.lt q hq).1), ?_, ?_, HAP.out⟩
            · unfold Hid
              rw [HH.out.1, List.length_append, List.flatMap_append, List.flatMap_cons, List.flatMap_nil, List.append_nil]
              exact hown'
            · unfold Hid
              rw [HH.out.2]
              exact HOO.out
          case measure => simp [intOf]; omega
      | false =>
        have HH := Lib.hid (rel_miss hlt hq)
        have hne : x[k].1 ≠ ByteArray.empty := fun e => by rw [isRel, e] at hq; simp at hq
        have hne2 : x[k].1.toList ≠ [] := fun e => hne (txt_ext (by rw [Lib.toList_data] at e; exact e))
        have q1 : ¬ x[k].1.toList = [] := hne2
        have q2 : x[k].1.toList.isEmpty = false := by
          cases h : x[k].1.toList with
          | nil => exact absurd h hne2
          | cons => rfl
        have HR1 := Lib.hid hR1
        clear hq hne hne2 hR1
        go_wp2_with (at_builtin; refine wpList_append_own_at _ rfl _ _ 43 rfl w5.heap.size 52 t0 (.agg #[.string ByteArray.empty, .int .i64 0, .slice none 0 0]) 3 48 Tryd.underlying43 hi hz0 hz1 hz2 rfl (by decide) _ _ _ rfl (hO1.alloc _) ⟨W2.heap.size, 0, none⟩ 1 1 (evCells x[k]) rfl rfl ?c1 ?c2 ?c3 ?c4 ?c5 ?_)
        case c1 =>
          intro j u hj
          match j, hj with
          | 0, hj => simp [evCells] at hj; subst hj; simp [Addr.add]
          | 1, hj => simp [evCells] at hj; subst hj; simp [Addr.add]
          | 2, hj => simp [evCells] at hj; subst hj; simp [Addr.add]
        case c2 => intro u hu; simp [evCells] at hu; rcases hu with rfl | rfl | rfl <;> rfl
        case c3 => unfold maxLen; omega
        case c4 => omega
        case c5 => first | omega | (simp; omega)
        · intro v' w6 hown' hgrow _ hat
          have HAP : Hid (ApartV v' rv) := apart_grown HR1.out HA.out.symm (by omega) hat
          have HOO : Hid (w6.ownsRow w5.heap.size 52 3 rv (relTo x k).length ((relTo x k).flatMap evCells)) := own_apart (HR1.out.alloc _) HA.out.symm hgrow
          clear hat s1 s4 s5 s6
          go_wp2
          go_roundw
          case rel =>
            refine ⟨k + 1, _, _, _, by omega, by go_num, rfl, rfl, rfl, (HB1.out.alloc HB1.out.size _).grown hgrow (by simp; omega) (fun q hq => (hO1.lt q hq).1), ?_, ?_, HAP.out.symm⟩
            · unfold Hid
              rw [HH.out.1]
              exact HOO.out
            · unfold Hid
              rw [HH.out.2, List.length_append, List.flatMap_append, List.flatMap_cons, List.flatMap_nil, List.append_nil]
              exact hown'
          case measure => simp [intOf]; omega
    · obtain rfl : k = x.length := by omega
      have hRv := own_evs HR.out
      have hOv := own_evs HO.out
      obtain ⟨bR, oR, cR, pR, rfl, _⟩ := hRv.cells
      obtain ⟨bO, oO, cO, pO, rfl, _⟩ := hOv.cells
      have HRW := Lib.hid hRv
      have HOW := Lib.hid hOv
      have HE1 := Lib.hid (eqEv_calls ((relTo x x.length).map bareEv) _ _ wo (HRV5.out.stays (keeps_of_below HB.out)) HRW.out (bare_map _))
      clear hRv hOv HR HO HA
      simp only [List.length_map] at HE1
      go_wp2_with (fail)
      refine HE1.out.mono ?_
      rintro e w6 ⟨rfl, hb6⟩
      have HB56 := Lib.hid (HB.out.trans (hb6.mono HB.out.size))
      have HE2 := Lib.hid (eqEv_calls ((othTo x x.length).map bareEv) _ _ w6 (HOV5.out.stays (keeps_of_below HB56.out)) (HOW.out.stays (keeps_of_below hb6)) (bare_map _))
      simp only [List.length_map] at HE2
      clear hb6
      go_wp2_with (fail)
      refine HE2.out.mono ?_
      rintro e w7 ⟨rfl, hb7⟩
      have HB57 := Lib.hid (HB56.out.trans (hb7.mono HB56.out.size))
      have HB7 := Lib.hid (HB5.out.trans (HB57.out.mono HB5.out.size))
      have HY7 := Lib.hid (HY5.out.stays (keeps_of_below HB57.out))
      clear hb7
      obtain ⟨w8, rfl⟩ : ∃ w8, w8 = w7 := ⟨_, rfl⟩
      have HB8 := HB7
      go_wp2
      go_loopw [20, 110] (fun b i ws => ∃ (k : Nat) (wo : World), k ≤ x.length ∧ i = .int .i64 k ∧ b = .int .i64 2 ∧ wo = ws ∧ Hid (Below w.heap.size w wo)) (fun _ i _ => x.length - (intOf i).toNat)
      case atStart => exact ⟨0, _, Nat.zero_le _, rfl, rfl, rfl, HB8.out⟩
      case round =>
        obtain ⟨k, wo, hk, rfl, rfl, rfl, HBB⟩ := hrel
        by_cases hlt : k < x.length
        · obtain ⟨ul, g1, g2, g3, hul⟩ := HCE.out k hlt
          obtain ⟨_, _, kl, pl, rfl, _⟩ := hul.cells
          have hcell1 : wo.cell? ⟨b2, o2 + k * 3, none⟩ = some (.string x[k].1) := (HBB.out.cell (cell_lt g1)).trans g1
          have hcell2 : wo.cell? ⟨b2, o2 + k * 3 + 1, none⟩ = some (.int .i64 x[k].2.1) := (HBB.out.cell (cell_lt g2)).trans g2
          have hcell3 : wo.cell? ⟨b2, o2 + k * 3 + 2, none⟩ = some (.slice pl x[k].2.2.length kl) := (HBB.out.cell (cell_lt g3)).trans g3
          obtain rfl := HPP.out (by omega)
          have HBX : Hid (Below w.heap.size w (wo.alloc (.cells #[.string x[k].1, .int .i64 x[k].2.1, .slice pl x[k].2.2.length kl] 52))) := HBB.out.alloc HBB.out.size _
          clear g1 g2 g3 hul
          go_wp2
          go_ret
          exact ⟨rfl, HBX.out⟩
        · go_wp2
          go_ret
          exact ⟨rfl, HBB.out⟩

set_option maxHeartbeats 4000000 in
set_option maxRecDepth 100000 in
theorem viewSeen_gt_chiefs (l : List Txt) (acts : List (Txt × Txt)) (who : Txt) (x m : List Evt) (v u t s : Value) (mx : Int) (w : World) (hv : Strs w l v) (hu : Prs w acts u) (ht : Evs w x t) (hs : Evs w m s) (hl : okList okTxt l) (ho : okList (okBoth okTxt okTxt) acts) (hxo : okList okEvt x) (hm : w.cell? ⟨0, 0, none⟩ = some (.int .i64 mx)) (hn : x.length * 48 ≤ 140737488351232) (hle : ¬ x.length ≤ m.length) (hmany : ¬ 3000 < x.length) (hc : checkC l acts ≠ 0) :
    Calls Tryd.prog 5 #[v, u, .string who, t, s] w fun e w' => e = .returned (.bool true) ∧ Below w.heap.size w w' := by
  have hv0 := hv
  have hu0 := hu
  have ht0 := ht
  have hs0 := hs
  obtain ⟨b0, o0, c0, p0, rfl, _⟩ := hv.cells
  obtain ⟨b1, o1, c1, p1, rfl, _⟩ := hu.cells
  obtain ⟨b2, o2, c2, p2, rfl, hlc2, hcm2, hp2, hcells2⟩ := ht.cells
  obtain ⟨b3, o3, c3, p3, rfl, hlc3, hcm3, _⟩ := hs.cells
  obtain ⟨t0, hi, hz0, hz1, hz2⟩ := info_parts Tryd.info_event
  have HV : Hid (∀ W, Below w.heap.size w W → Strs W l (.slice p0 l.length c0)) := fun W h => hv0.stays (keeps_of_below h)
  have HU : Hid (∀ W, Below w.heap.size w W → Prs W acts (.slice p1 acts.length c1)) := fun W h => hu0.stays (keeps_of_below h)
  have HX : Hid (∀ W, Below w.heap.size w W → Evs W x (.slice p2 x.length c2)) := fun W h => ht0.stays (keeps_of_below h)
  have HMM : Hid (∀ W, Below w.heap.size w W → Evs W m (.slice p3 m.length c3)) := fun W h => hs0.stays (keeps_of_below h)
  have HPP := Lib.hid hp2
  have HCE := Lib.hid hcells2
  have HSN : Hid (Calls Tryd.prog 21 #[.slice p0 l.length c0, .slice p1 acts.length c1, .string who, .slice p2 x.length c2] w fun e w' => ∃ y, e = .returned (.tuple #[y, .int .i64 (seenE l acts who x)]) ∧ Evs w' (seenR l acts who x) y ∧ Below w.heap.size w w') :=
    seen_calls l acts who x _ _ _ w hv0 hu0 ht0 hl hxo
  have HCK : Hid (∀ W, Below w.heap.size w W → Calls Tryd.prog 9 #[.slice p0 l.length c0, .slice p1 acts.length c1] W fun e w' => e = .returned (.int .i64 (checkC l acts)) ∧ Below W.heap.size W w') := fun W h =>
    refCheck_calls l acts _ _ mx W (HV.out W h) (HU.out W h) hl ho ((h.cell (cell_lt hm)).trans hm)
  have HCON : Hid (∀ W, Below w.heap.size w W → Calls Tryd.prog 19 #[.slice p0 l.length c0, .string who] W fun e w' => e = .returned (.bool (has l who)) ∧ W = w') := fun W h => contains_calls l who _ W (HV.out W h)
  have HCL : Hid (∀ W y vy, Below w.heap.size w W → Lbl W y vy → Calls Tryd.prog 28 #[.slice p0 l.length c0, vy] W fun e w' => e = .returned (.int .i64 (labErr l y)) ∧ Below W.heap.size W w') := fun W y vy h hy =>
    refLabel_calls l y _ _ W (HV.out W h) hy
  clear hv hu ht hs hv0 hu0 ht0 hs0 hp2 hcells2 hm hl ho hxo
  have hbig : ¬ 3000 < (x.length : Int) := by omega
  have HSE := Lib.hid (seen_chiefs (who := who) hmany hc).1
  have HSR := Lib.hid (seen_chiefs (who := who) hmany hc).2
  have hq1 : (checkC l acts != 0) = true := by simpa using hc
  have hq2 : (checkC l acts == 0) = false := by simpa using hc
  have hq3 : (checkC l acts == checkC l acts) = true := beq_self_eq_true _
  clear hc hmany
  have HBG : Hid (beginsB x m = false) := by unfold Hid beginsB; simp [hle]
  have hle1 : ¬ (x.length : Int) ≤ (m.length : Int) := by omega
  go_enter Tryd.func5, Tryd.ntmps5
  go_wp2_with (fail)
  refine HSN.out.mono ?_
  rintro e w1 ⟨y, rfl, hy, hb1⟩
  rw [HSR.out] at hy
  rw [HSE.out]
  obtain ⟨by_, oy, cy, py, rfl, _⟩ := hy.cells
  have HY := Lib.hid hy
  have HB1 := Lib.hid hb1
  clear hy hb1
  go_wp2_with (fail)
  refine (released_calls x _ _ (HX.out _ HB1.out) hn).mono ?_
  rintro e w2 ⟨rv, ov, rfl, hrv, hov, hb2⟩
  obtain ⟨br, or_, cr, pr, rfl, _⟩ := hrv.cells
  obtain ⟨bo, oo, co, po, rfl, _⟩ := hov.cells
  have HB2 := Lib.hid (HB1.out.trans (hb2.mono HB1.out.size))
  have HY2 := Lib.hid (HY.out.stays (keeps_of_below hb2))
  have HRV := Lib.hid hrv
  have HOV := Lib.hid hov
  clear hb2 hrv hov
  go_wp2_with (fail)
  refine (viewed_calls _).mono ?_
  rintro e w3 ⟨rfl, hb3⟩
  have HB3 := Lib.hid (HB2.out.trans (hb3.mono HB2.out.size))
  have HY3 := Lib.hid (HY2.out.stays (keeps_of_below hb3))
  have HRV3 := Lib.hid (HRV.out.stays (keeps_of_below hb3))
  have HOV3 := Lib.hid (HOV.out.stays (keeps_of_below hb3))
  clear hb3
  go_wp2_with (fail)
  refine (begins_calls x m _ _ _ (HX.out _ HB3.out) (HMM.out _ HB3.out)).mono ?_
  rintro e w4 ⟨rfl, hb4⟩
  rw [HBG.out]
  have HB4 := Lib.hid (HB3.out.trans (hb4.mono HB3.out.size))
  have HY4 := Lib.hid (HY3.out.stays (keeps_of_below hb4))
  have HRV4 := Lib.hid (HRV3.out.stays (keeps_of_below hb4))
  have HOV4 := Lib.hid (HOV3.out.stays (keeps_of_below hb4))
  clear hb4
  obtain ⟨w5, rfl⟩ : ∃ w5, w5 = w4 := ⟨_, rfl⟩
  have HB5 := HB4
  have HY5 := HY4
  have HRV5 := HRV4
  have HOV5 := HOV4
  go_wp2
  go_loopw [15, 16, 63] (fun r o i ws => ∃ (k : Nat) (wo : World) (rv ov : Value), k ≤ x.length ∧ i = .int .i64 k ∧ wo = ws ∧ rv = r ∧ ov = o ∧ Hid (Below w5.heap.size w5 wo) ∧ Hid (wo.ownsRow w5.heap.size 52 3 rv (relTo x k).length ((relTo x k).flatMap evCells)) ∧ Hid (wo.ownsRow w5.heap.size 52 3 ov (othTo x k).length ((othTo x k).flatMap evCells)) ∧ Hid (ApartV rv ov)) (fun _ _ i _ => x.length - (intOf i).toNat)
  case atStart => exact ⟨0, _, _, _, Nat.zero_le _, rfl, rfl, rfl, rfl, Below.refl _ _, World.ownsRow_nil _ _ _ _, World.ownsRow_nil _ _ _ _, fun q h => by cases h⟩
  case round =>
    obtain ⟨k, wo, rv, ov, hk, rfl, rfl, rfl, rfl, HB, HR, HO, HA⟩ := hrel
    have HBW : Hid (Below w.heap.size w wo) := HB5.out.trans (HB.out.mono HB5.out.size)
    by_cases hlt : k < x.length
    · obtain ⟨ul, g1, g2, g3, hul⟩ := HCE.out k hlt
      obtain ⟨_, _, kl, pl, rfl, _⟩ := hul.cells
      have hcell1 : wo.cell? ⟨b2, o2 + k * 3, none⟩ = some (.string x[k].1) := (HBW.out.cell (cell_lt g1)).trans g1
      have hcell2 : wo.cell? ⟨b2, o2 + k * 3 + 1, none⟩ = some (.int .i64 x[k].2.1) := (HBW.out.cell (cell_lt g2)).trans g2
      have hcell3 : wo.cell? ⟨b2, o2 + k * 3 + 2, none⟩ = some (.slice pl x[k].2.2.length kl) := (HBW.out.cell (cell_lt g3)).trans g3
      obtain rfl := HPP.out (by omega)
      obtain ⟨W1, eW⟩ : ∃ W1, wo.alloc (.cells #[.string x[k].1, .int .i64 x[k].2.1, .slice pl x[k].2.2.length kl] 52) = W1 := ⟨_, rfl⟩
      obtain ⟨z1, hW1, m1⟩ := boxes1 eW
      obtain ⟨W2, eW2⟩ : ∃ W2, (W1.alloc (.cells #[.string x[k].1, .int .i64 x[k].2.1, .slice none 0 0] 52)).setCell ⟨W1.heap.size, 2, none⟩ (.slice none 0 0) = W2 := ⟨_, rfl⟩
      have hW2 : Below W1.heap.size W1 W2 := by rw [← eW2]; exact ((Below.refl _ _).alloc (Nat.le_refl _) _).setCell (Nat.le_refl _) _
      have s4 : W2.cell? ⟨W1.heap.size, 0, none⟩ = some (.string x[k].1) := by rw [← eW2, World.cell?_setCell_other _ _ _ _ (by simp), alloc_cell_new _ _ _ _ _ rfl]; rfl
      have s5 : W2.cell? ⟨W1.heap.size, 1, none⟩ = some (.int .i64 x[k].2.1) := by rw [← eW2, World.cell?_setCell_other _ _ _ _ (by simp), alloc_cell_new _ _ _ _ _ rfl]; rfl
      have s6 : W2.cell? ⟨W1.heap.size, 2, none⟩ = some (.slice none 0 0) := by rw [← eW2]; exact World.cell?_setCell_same _ _ _ ((alloc_cell_new _ _ _ _ _ rfl).trans rfl)
      have r1 := m1 0
      have r2 := m1 1
      simp only [List.getElem?_toArray, List.getElem?_cons_zero, List.getElem?_cons_succ] at r1 r2
      have s1 : W2.cell? ⟨wo.heap.size, 0, none⟩ = _ := (hW2.cell (cell_lt r1)).trans r1
      have HB1 : Hid (Below w5.heap.size w5 W2) := HB.out.trans ((hW1.trans (hW2.mono hW1.size)).mono HB.out.size)
      have hR1 := own_below HR.out (hW1.trans (hW2.mono hW1.size))
      have hO1 := own_below HO.out (hW1.trans (hW2.mono hW1.size))
      have hle1 := relTo_le x k
      have hle2 := othTo_le x k
      have hsz1 := HB1.out.size
      clear g1 g2 g3 hul m1 hW1 z1 hW2
      cases hq : isRel x[k] with
      | true =>
        have hx : x[k].1 = ByteArray.empty := eq_of_beq hq
        have HH := Lib.hid (rel_hit hlt hq)
        have q1 : x[k].1.toList = [] := by rw [hx, Lib.toList_data]; rfl
        have q2 : x[k].1.toList.isEmpty = true := by rw [q1]; rfl
        have HO1 := Lib.hid hO1
        clear hq hx hO1
        go_wp2_with (at_builtin; refine wpList_append_own_at _ rfl _ _ 43 rfl w5.heap.size 52 t0 (.agg #[.string ByteArray.empty, .int .i64 0, .slice none 0 0]) 3 48 Tryd.underlying43 hi hz0 hz1 hz2 rfl (by decide) _ _ _ rfl (hR1.alloc _) ⟨W2.heap.size, 0, none⟩ 1 1 (evCells x[k]) rfl rfl ?c1 ?c2 ?c3 ?c4 ?c5 ?_)
        case c1 =>
          intro j u hj
          match j, hj with
          | 0, hj => simp [evCells] at hj; subst hj; simp [Addr.add]
          | 1, hj => simp [evCells] at hj; subst hj; simp [Addr.add]
          | 2, hj => simp [evCells] at hj; subst hj; simp [Addr.add]
        case c2 => intro u hu; simp [evCells] at hu; rcases hu with rfl | rfl | rfl <;> rfl
        case c3 => unfold maxLen; omega
        case c4 => omega
        case c5 => first | omega | (simp; omega)
        · intro v' w6 hown' hgrow _ hat
          have HAP : Hid (ApartV v' ov) := apart_grown HO1.out HA.out (by omega) hat
          have HOO : Hid (w6.ownsRow w5.heap.size 52 3 ov (othTo x k).length ((othTo x k).flatMap evCells)) := own_apart (HO1.out.alloc _) HA.out hgrow
          clear hat s1 s4 s5 s6
          go_wp2
          go_roundw
          case rel =>
            refine ⟨k + 1, _, _, _, by omega, by go_num, rfl, rfl, rfl, (HB1.out.alloc HB1.out.size _).grown hgrow (by simp; omega) (fun q hq => (hR1.lt q hq).1), ?_, ?_, HAP.out⟩
            · unfold Hid
              rw [HH.out.1, List.length_append, List.flatMap_append, List.flatMap_cons, List.flatMap_nil, List.append_nil]
              exact hown'
            · unfold Hid
              rw [HH.out.2]
              exact HOO.out
          case measure => simp [intOf]; omega
      | false =>
        have HH := Lib.hid (rel_miss hlt hq)
        have hne : x[k].1 ≠ ByteArray.empty := fun e => by rw [isRel, e] at hq; simp at hq
        have hne2 : x[k].1.toList ≠ [] := fun e => hne (txt_ext (by rw [Lib.toList_data] at e; exact e))
        have q1 : ¬ x[k].1.toList = [] := hne2
        have q2 : x[k].1.toList.isEmpty = false := by
          cases h : x[k].1.toList with
          | nil => exact absurd h hne2
          | cons => rfl
        have HR1 := Lib.hid hR1
        clear hq hne hne2 hR1
        go_wp2_with (at_builtin; refine wpList_append_own_at _ rfl _ _ 43 rfl w5.heap.size 52 t0 (.agg #[.string ByteArray.empty, .int .i64 0, .slice none 0 0]) 3 48 Tryd.underlying43 hi hz0 hz1 hz2 rfl (by decide) _ _ _ rfl (hO1.alloc _) ⟨W2.heap.size, 0, none⟩ 1 1 (evCells x[k]) rfl rfl ?c1 ?c2 ?c3 ?c4 ?c5 ?_)
        case c1 =>
          intro j u hj
          match j, hj with
          | 0, hj => simp [evCells] at hj; subst hj; simp [Addr.add]
          | 1, hj => simp [evCells] at hj; subst hj; simp [Addr.add]
          | 2, hj => simp [evCells] at hj; subst hj; simp [Addr.add]
        case c2 => intro u hu; simp [evCells] at hu; rcases hu with rfl | rfl | rfl <;> rfl
        case c3 => unfold maxLen; omega
        case c4 => omega
        case c5 => first | omega | (simp; omega)
        · intro v' w6 hown' hgrow _ hat
          have HAP : Hid (ApartV v' rv) := apart_grown HR1.out HA.out.symm (by omega) hat
          have HOO : Hid (w6.ownsRow w5.heap.size 52 3 rv (relTo x k).length ((relTo x k).flatMap evCells)) := own_apart (HR1.out.alloc _) HA.out.symm hgrow
          clear hat s1 s4 s5 s6
          go_wp2
          go_roundw
          case rel =>
            refine ⟨k + 1, _, _, _, by omega, by go_num, rfl, rfl, rfl, (HB1.out.alloc HB1.out.size _).grown hgrow (by simp; omega) (fun q hq => (hO1.lt q hq).1), ?_, ?_, HAP.out.symm⟩
            · unfold Hid
              rw [HH.out.1]
              exact HOO.out
            · unfold Hid
              rw [HH.out.2, List.length_append, List.flatMap_append, List.flatMap_cons, List.flatMap_nil, List.append_nil]
              exact hown'
          case measure => simp [intOf]; omega
    · obtain rfl : k = x.length := by omega
      have hRv := own_evs HR.out
      have hOv := own_evs HO.out
      obtain ⟨bR, oR, cR, pR, rfl, _⟩ := hRv.cells
      obtain ⟨bO, oO, cO, pO, rfl, _⟩ := hOv.cells
      have HRW := Lib.hid hRv
      have HOW := Lib.hid hOv
      have HE1 := Lib.hid (eqEv_calls ((relTo x x.length).map bareEv) _ _ wo (HRV5.out.stays (keeps_of_below HB.out)) HRW.out (bare_map _))
      clear hRv hOv HR HO HA
      simp only [List.length_map] at HE1
      go_wp2_with (fail)
      refine HE1.out.mono ?_
      rintro e w6 ⟨rfl, hb6⟩
      have HB56 := Lib.hid (HB.out.trans (hb6.mono HB.out.size))
      have HE2 := Lib.hid (eqEv_calls ((othTo x x.length).map bareEv) _ _ w6 (HOV5.out.stays (keeps_of_below HB56.out)) (HOW.out.stays (keeps_of_below hb6)) (bare_map _))
      simp only [List.length_map] at HE2
      clear hb6
      go_wp2_with (fail)
      refine HE2.out.mono ?_
      rintro e w7 ⟨rfl, hb7⟩
      have HB57 := Lib.hid (HB56.out.trans (hb7.mono HB56.out.size))
      have HB7 := Lib.hid (HB5.out.trans (HB57.out.mono HB5.out.size))
      have HY7 := Lib.hid (HY5.out.stays (keeps_of_below HB57.out))
      clear hb7
      go_wp2_with (fail)
      refine (HCK.out _ HB7.out).mono ?_
      rintro e w8 ⟨rfl, hb8⟩
      have HB8 := Lib.hid (HB7.out.trans (hb8.mono HB7.out.size))
      clear hb8
      go_wp2
      go_loopw [20, 110] (fun b i ws => ∃ (k : Nat) (wo : World), k ≤ x.length ∧ i = .int .i64 k ∧ b = .int .i64 (checkC l acts) ∧ wo = ws ∧ Hid (Below w.heap.size w wo)) (fun _ i _ => x.length - (intOf i).toNat)
      case atStart => exact ⟨0, _, Nat.zero_le _, rfl, rfl, rfl, HB8.out⟩
      case round =>
        obtain ⟨k, wo, hk, rfl, rfl, rfl, HBB⟩ := hrel
        by_cases hlt : k < x.length
        · obtain ⟨ul, g1, g2, g3, hul⟩ := HCE.out k hlt
          obtain ⟨_, _, kl, pl, rfl, _⟩ := hul.cells
          have hcell1 : wo.cell? ⟨b2, o2 + k * 3, none⟩ = some (.string x[k].1) := (HBB.out.cell (cell_lt g1)).trans g1
          have hcell2 : wo.cell? ⟨b2, o2 + k * 3 + 1, none⟩ = some (.int .i64 x[k].2.1) := (HBB.out.cell (cell_lt g2)).trans g2
          have hcell3 : wo.cell? ⟨b2, o2 + k * 3 + 2, none⟩ = some (.slice pl x[k].2.2.length kl) := (HBB.out.cell (cell_lt g3)).trans g3
          obtain rfl := HPP.out (by omega)
          have HBX : Hid (Below w.heap.size w (wo.alloc (.cells #[.string x[k].1, .int .i64 x[k].2.1, .slice pl x[k].2.2.length kl] 52))) := HBB.out.alloc HBB.out.size _
          clear g1 g2 g3 hul
          go_wp2
          go_ret
          exact ⟨rfl, HBX.out⟩
        · go_wp2
          go_ret
          exact ⟨rfl, HBB.out⟩

set_option maxHeartbeats 4000000 in
set_option maxRecDepth 100000 in
theorem viewSeen_gt_who (l : List Txt) (acts : List (Txt × Txt)) (who : Txt) (x m : List Evt) (v u t s : Value) (mx : Int) (w : World) (hv : Strs w l v) (hu : Prs w acts u) (ht : Evs w x t) (hs : Evs w m s) (hl : okList okTxt l) (ho : okList (okBoth okTxt okTxt) acts) (hxo : okList okEvt x) (hm : w.cell? ⟨0, 0, none⟩ = some (.int .i64 mx)) (hn : x.length * 48 ≤ 140737488351232) (hle : ¬ x.length ≤ m.length) (hmany : ¬ 3000 < x.length) (hc : checkC l acts = 0) (hw : has l who = false) :
    Calls Tryd.prog 5 #[v, u, .string who, t, s] w fun e w' => e = .returned (.bool true) ∧ Below w.heap.size w w' := by
  have hv0 := hv
  have hu0 := hu
  have ht0 := ht
  have hs0 := hs
  obtain ⟨b0, o0, c0, p0, rfl, _⟩ := hv.cells
  obtain ⟨b1, o1, c1, p1, rfl, _⟩ := hu.cells
  obtain ⟨b2, o2, c2, p2, rfl, hlc2, hcm2, hp2, hcells2⟩ := ht.cells
  obtain ⟨b3, o3, c3, p3, rfl, hlc3, hcm3, _⟩ := hs.cells
  obtain ⟨t0, hi, hz0, hz1, hz2⟩ := info_parts Tryd.info_event
  have HV : Hid (∀ W, Below w.heap.size w W → Strs W l (.slice p0 l.length c0)) := fun W h => hv0.stays (keeps_of_below h)
  have HU : Hid (∀ W, Below w.heap.size w W → Prs W acts (.slice p1 acts.length c1)) := fun W h => hu0.stays (keeps_of_below h)
  have HX : Hid (∀ W, Below w.heap.size w W → Evs W x (.slice p2 x.length c2)) := fun W h => ht0.stays (keeps_of_below h)
  have HMM : Hid (∀ W, Below w.heap.size w W → Evs W m (.slice p3 m.length c3)) := fun W h => hs0.stays (keeps_of_below h)
  have HPP := Lib.hid hp2
  have HCE := Lib.hid hcells2
  have HSN : Hid (Calls Tryd.prog 21 #[.slice p0 l.length c0, .slice p1 acts.length c1, .string who, .slice p2 x.length c2] w fun e w' => ∃ y, e = .returned (.tuple #[y, .int .i64 (seenE l acts who x)]) ∧ Evs w' (seenR l acts who x) y ∧ Below w.heap.size w w') :=
    seen_calls l acts who x _ _ _ w hv0 hu0 ht0 hl hxo
  have HCK : Hid (∀ W, Below w.heap.size w W → Calls Tryd.prog 9 #[.slice p0 l.length c0, .slice p1 acts.length c1] W fun e w' => e = .returned (.int .i64 (checkC l acts)) ∧ Below W.heap.size W w') := fun W h =>
    refCheck_calls l acts _ _ mx W (HV.out W h) (HU.out W h) hl ho ((h.cell (cell_lt hm)).trans hm)
  have HCON : Hid (∀ W, Below w.heap.size w W → Calls Tryd.prog 19 #[.slice p0 l.length c0, .string who] W fun e w' => e = .returned (.bool (has l who)) ∧ W = w') := fun W h => contains_calls l who _ W (HV.out W h)
  have HCL : Hid (∀ W y vy, Below w.heap.size w W → Lbl W y vy → Calls Tryd.prog 28 #[.slice p0 l.length c0, vy] W fun e w' => e = .returned (.int .i64 (labErr l y)) ∧ Below W.heap.size W w') := fun W y vy h hy =>
    refLabel_calls l y _ _ W (HV.out W h) hy
  clear hv hu ht hs hv0 hu0 ht0 hs0 hp2 hcells2 hm hl ho hxo
  have hbig : ¬ 3000 < (x.length : Int) := by omega
  have HSE := Lib.hid (seen_who hmany hc hw).1
  have HSR := Lib.hid (seen_who hmany hc hw).2
  have HC := Lib.hid hc
  have HW := Lib.hid hw
  clear hc hw hmany
  have HBG : Hid (beginsB x m = false) := by unfold Hid beginsB; simp [hle]
  have hle1 : ¬ (x.length : Int) ≤ (m.length : Int) := by omega
  go_enter Tryd.func5, Tryd.ntmps5
  go_wp2_with (fail)
  refine HSN.out.mono ?_
  rintro e w1 ⟨y, rfl, hy, hb1⟩
  rw [HSR.out] at hy
  rw [HSE.out]
  obtain ⟨by_, oy, cy, py, rfl, _⟩ := hy.cells
  have HY := Lib.hid hy
  have HB1 := Lib.hid hb1
  clear hy hb1
  go_wp2_with (fail)
  refine (released_calls x _ _ (HX.out _ HB1.out) hn).mono ?_
  rintro e w2 ⟨rv, ov, rfl, hrv, hov, hb2⟩
  obtain ⟨br, or_, cr, pr, rfl, _⟩ := hrv.cells
  obtain ⟨bo, oo, co, po, rfl, _⟩ := hov.cells
  have HB2 := Lib.hid (HB1.out.trans (hb2.mono HB1.out.size))
  have HY2 := Lib.hid (HY.out.stays (keeps_of_below hb2))
  have HRV := Lib.hid hrv
  have HOV := Lib.hid hov
  clear hb2 hrv hov
  go_wp2_with (fail)
  refine (viewed_calls _).mono ?_
  rintro e w3 ⟨rfl, hb3⟩
  have HB3 := Lib.hid (HB2.out.trans (hb3.mono HB2.out.size))
  have HY3 := Lib.hid (HY2.out.stays (keeps_of_below hb3))
  have HRV3 := Lib.hid (HRV.out.stays (keeps_of_below hb3))
  have HOV3 := Lib.hid (HOV.out.stays (keeps_of_below hb3))
  clear hb3
  go_wp2_with (fail)
  refine (begins_calls x m _ _ _ (HX.out _ HB3.out) (HMM.out _ HB3.out)).mono ?_
  rintro e w4 ⟨rfl, hb4⟩
  rw [HBG.out]
  have HB4 := Lib.hid (HB3.out.trans (hb4.mono HB3.out.size))
  have HY4 := Lib.hid (HY3.out.stays (keeps_of_below hb4))
  have HRV4 := Lib.hid (HRV3.out.stays (keeps_of_below hb4))
  have HOV4 := Lib.hid (HOV3.out.stays (keeps_of_below hb4))
  clear hb4
  obtain ⟨w5, rfl⟩ : ∃ w5, w5 = w4 := ⟨_, rfl⟩
  have HB5 := HB4
  have HY5 := HY4
  have HRV5 := HRV4
  have HOV5 := HOV4
  go_wp2
  go_loopw [15, 16, 63] (fun r o i ws => ∃ (k : Nat) (wo : World) (rv ov : Value), k ≤ x.length ∧ i = .int .i64 k ∧ wo = ws ∧ rv = r ∧ ov = o ∧ Hid (Below w5.heap.size w5 wo) ∧ Hid (wo.ownsRow w5.heap.size 52 3 rv (relTo x k).length ((relTo x k).flatMap evCells)) ∧ Hid (wo.ownsRow w5.heap.size 52 3 ov (othTo x k).length ((othTo x k).flatMap evCells)) ∧ Hid (ApartV rv ov)) (fun _ _ i _ => x.length - (intOf i).toNat)
  case atStart => exact ⟨0, _, _, _, Nat.zero_le _, rfl, rfl, rfl, rfl, Below.refl _ _, World.ownsRow_nil _ _ _ _, World.ownsRow_nil _ _ _ _, fun q h => by cases h⟩
  case round =>
    obtain ⟨k, wo, rv, ov, hk, rfl, rfl, rfl, rfl, HB, HR, HO, HA⟩ := hrel
    have HBW : Hid (Below w.heap.size w wo) := HB5.out.trans (HB.out.mono HB5.out.size)
    by_cases hlt : k < x.length
    · obtain ⟨ul, g1, g2, g3, hul⟩ := HCE.out k hlt
      obtain ⟨_, _, kl, pl, rfl, _⟩ := hul.cells
      have hcell1 : wo.cell? ⟨b2, o2 + k * 3, none⟩ = some (.string x[k].1) := (HBW.out.cell (cell_lt g1)).trans g1
      have hcell2 : wo.cell? ⟨b2, o2 + k * 3 + 1, none⟩ = some (.int .i64 x[k].2.1) := (HBW.out.cell (cell_lt g2)).trans g2
      have hcell3 : wo.cell? ⟨b2, o2 + k * 3 + 2, none⟩ = some (.slice pl x[k].2.2.length kl) := (HBW.out.cell (cell_lt g3)).trans g3
      obtain rfl := HPP.out (by omega)
      obtain ⟨W1, eW⟩ : ∃ W1, wo.alloc (.cells #[.string x[k].1, .int .i64 x[k].2.1, .slice pl x[k].2.2.length kl] 52) = W1 := ⟨_, rfl⟩
      obtain ⟨z1, hW1, m1⟩ := boxes1 eW
      obtain ⟨W2, eW2⟩ : ∃ W2, (W1.alloc (.cells #[.string x[k].1, .int .i64 x[k].2.1, .slice none 0 0] 52)).setCell ⟨W1.heap.size, 2, none⟩ (.slice none 0 0) = W2 := ⟨_, rfl⟩
      have hW2 : Below W1.heap.size W1 W2 := by rw [← eW2]; exact ((Below.refl _ _).alloc (Nat.le_refl _) _).setCell (Nat.le_refl _) _
      have s4 : W2.cell? ⟨W1.heap.size, 0, none⟩ = some (.string x[k].1) := by rw [← eW2, World.cell?_setCell_other _ _ _ _ (by simp), alloc_cell_new _ _ _ _ _ rfl]; rfl
      have s5 : W2.cell? ⟨W1.heap.size, 1, none⟩ = some (.int .i64 x[k].2.1) := by rw [← eW2, World.cell?_setCell_other _ _ _ _ (by simp), alloc_cell_new _ _ _ _ _ rfl]; rfl
      have s6 : W2.cell? ⟨W1.heap.size, 2, none⟩ = some (.slice none 0 0) := by rw [← eW2]; exact World.cell?_setCell_same _ _ _ ((alloc_cell_new _ _ _ _ _ rfl).trans rfl)
      have r1 := m1 0
      have r2 := m1 1
      simp only [List.getElem?_toArray, List.getElem?_cons_zero, List.getElem?_cons_succ] at r1 r2
      have s1 : W2.cell? ⟨wo.heap.size, 0, none⟩ = _ := (hW2.cell (cell_lt r1)).trans r1
      have HB1 : Hid (Below w5.heap.size w5 W2) := HB.out.trans ((hW1.trans (hW2.mono hW1.size)).mono HB.out.size)
      have hR1 := own_below HR.out (hW1.trans (hW2.mono hW1.size))
      have hO1 := own_below HO.out (hW1.trans (hW2.mono hW1.size))
      have hle1 := relTo_le x k
      have hle2 := othTo_le x k
      have hsz1 := HB1.out.size
      clear g1 g2 g3 hul m1 hW1 z1 hW2
      cases hq : isRel x[k] with
      | true =>
        have hx : x[k].1 = ByteArray.empty := eq_of_beq hq
        have HH := Lib.hid (rel_hit hlt hq)
        have q1 : x[k].1.toList = [] := by rw [hx, Lib.toList_data]; rfl
        have q2 : x[k].1.toList.isEmpty = true := by rw [q1]; rfl
        have HO1 := Lib.hid hO1
        clear hq hx hO1
        go_wp2_with (at_builtin; refine wpList_append_own_at _ rfl _ _ 43 rfl w5.heap.size 52 t0 (.agg #[.string ByteArray.empty, .int .i64 0, .slice none 0 0]) 3 48 Tryd.underlying43 hi hz0 hz1 hz2 rfl (by decide) _ _ _ rfl (hR1.alloc _) ⟨W2.heap.size, 0, none⟩ 1 1 (evCells x[k]) rfl rfl ?c1 ?c2 ?c3 ?c4 ?c5 ?_)
        case c1 =>
          intro j u hj
          match j, hj with
          | 0, hj => simp [evCells] at hj; subst hj; simp [Addr.add]
          | 1, hj => simp [evCells] at hj; subst hj; simp [Addr.add]
          | 2, hj => simp [evCells] at hj; subst hj; simp [Addr.add]
        case c2 => intro u hu; simp [evCells] at hu; rcases hu with rfl | rfl | rfl <;> rfl
        case c3 => unfold maxLen; omega
        case c4 => omega
        case c5 => first | omega | (simp; omega)
        · intro v' w6 hown' hgrow _ hat
          have HAP : Hid (ApartV v' ov) := apart_grown HO1.out HA.out (by omega) hat
          have HOO : Hid (w6.ownsRow w5.heap.size 52 3 ov (othTo x k).length ((othTo x k).flatMap evCells)) := own_apart (HO1.out.alloc _) HA.out hgrow
          clear hat s1 s4 s5 s6
          go_wp2
          go_roundw
          case rel =>
            refine ⟨k + 1, _, _, _, by omega, by go_num, rfl, rfl, rfl, (HB1.out.alloc HB1.out.size _).grown hgrow (by simp; omega) (fun q hq => (hR1.lt q hq).1), ?_, ?_, HAP.out⟩
            · unfold Hid
              rw [HH.out.1, List.length_append, List.flatMap_append, List.flatMap_cons, List.flatMap_nil, List.append_nil]
              exact hown'
            · unfold Hid
              rw [HH.out.2]
              exact HOO.out
          case measure => simp [intOf]; omega
      | false =>
        have HH := Lib.hid (rel_miss hlt hq)
        have hne : x[k].1 ≠ ByteArray.empty := fun e => by rw [isRel, e] at hq; simp at hq
        have hne2 : x[k].1.toList ≠ [] := fun e => hne (txt_ext (by rw [Lib.toList_data] at e; exact e))
        have q1 : ¬ x[k].1.toList = [] := hne2
        have q2 : x[k].1.toList.isEmpty = false := by
          cases h : x[k].1.toList with
          | nil => exact absurd h hne2
          | cons => rfl
        have HR1 := Lib.hid hR1
        clear hq hne hne2 hR1
        go_wp2_with (at_builtin; refine wpList_append_own_at _ rfl _ _ 43 rfl w5.heap.size 52 t0 (.agg #[.string ByteArray.empty, .int .i64 0, .slice none 0 0]) 3 48 Tryd.underlying43 hi hz0 hz1 hz2 rfl (by decide) _ _ _ rfl (hO1.alloc _) ⟨W2.heap.size, 0, none⟩ 1 1 (evCells x[k]) rfl rfl ?c1 ?c2 ?c3 ?c4 ?c5 ?_)
        case c1 =>
          intro j u hj
          match j, hj with
          | 0, hj => simp [evCells] at hj; subst hj; simp [Addr.add]
          | 1, hj => simp [evCells] at hj; subst hj; simp [Addr.add]
          | 2, hj => simp [evCells] at hj; subst hj; simp [Addr.add]
        case c2 => intro u hu; simp [evCells] at hu; rcases hu with rfl | rfl | rfl <;> rfl
        case c3 => unfold maxLen; omega
        case c4 => omega
        case c5 => first | omega | (simp; omega)
        · intro v' w6 hown' hgrow _ hat
          have HAP : Hid (ApartV v' rv) := apart_grown HR1.out HA.out.symm (by omega) hat
          have HOO : Hid (w6.ownsRow w5.heap.size 52 3 rv (relTo x k).length ((relTo x k).flatMap evCells)) := own_apart (HR1.out.alloc _) HA.out.symm hgrow
          clear hat s1 s4 s5 s6
          go_wp2
          go_roundw
          case rel =>
            refine ⟨k + 1, _, _, _, by omega, by go_num, rfl, rfl, rfl, (HB1.out.alloc HB1.out.size _).grown hgrow (by simp; omega) (fun q hq => (hO1.lt q hq).1), ?_, ?_, HAP.out.symm⟩
            · unfold Hid
              rw [HH.out.1]
              exact HOO.out
            · unfold Hid
              rw [HH.out.2, List.length_append, List.flatMap_append, List.flatMap_cons, List.flatMap_nil, List.append_nil]
              exact hown'
          case measure => simp [intOf]; omega
    · obtain rfl : k = x.length := by omega
      have hRv := own_evs HR.out
      have hOv := own_evs HO.out
      obtain ⟨bR, oR, cR, pR, rfl, _⟩ := hRv.cells
      obtain ⟨bO, oO, cO, pO, rfl, _⟩ := hOv.cells
      have HRW := Lib.hid hRv
      have HOW := Lib.hid hOv
      have HE1 := Lib.hid (eqEv_calls ((relTo x x.length).map bareEv) _ _ wo (HRV5.out.stays (keeps_of_below HB.out)) HRW.out (bare_map _))
      clear hRv hOv HR HO HA
      simp only [List.length_map] at HE1
      go_wp2_with (fail)
      refine HE1.out.mono ?_
      rintro e w6 ⟨rfl, hb6⟩
      have HB56 := Lib.hid (HB.out.trans (hb6.mono HB.out.size))
      have HE2 := Lib.hid (eqEv_calls ((othTo x x.length).map bareEv) _ _ w6 (HOV5.out.stays (keeps_of_below HB56.out)) (HOW.out.stays (keeps_of_below hb6)) (bare_map _))
      simp only [List.length_map] at HE2
      clear hb6
      go_wp2_with (fail)
      refine HE2.out.mono ?_
      rintro e w7 ⟨rfl, hb7⟩
      have HB57 := Lib.hid (HB56.out.trans (hb7.mono HB56.out.size))
      have HB7 := Lib.hid (HB5.out.trans (HB57.out.mono HB5.out.size))
      have HY7 := Lib.hid (HY5.out.stays (keeps_of_below HB57.out))
      clear hb7
      go_wp2_with (fail)
      refine (HCK.out _ HB7.out).mono ?_
      rintro e w8 ⟨rfl, hb8⟩
      rw [HC.out]
      have HB8 := Lib.hid (HB7.out.trans (hb8.mono HB7.out.size))
      clear hb8
      go_wp2_with (fail)
      refine (HCON.out _ HB8.out).mono ?_
      rintro e w' ⟨rfl, rfl⟩
      rw [HW.out]
      go_wp2
      go_loopw [20, 110] (fun b i ws => ∃ (k : Nat) (wo : World), k ≤ x.length ∧ i = .int .i64 k ∧ b = .int .i64 5 ∧ wo = ws ∧ Hid (Below w.heap.size w wo)) (fun _ i _ => x.length - (intOf i).toNat)
      case atStart => exact ⟨0, _, Nat.zero_le _, rfl, rfl, rfl, HB8.out⟩
      case round =>
        obtain ⟨k, wo, hk, rfl, rfl, rfl, HBB⟩ := hrel
        by_cases hlt : k < x.length
        · obtain ⟨ul, g1, g2, g3, hul⟩ := HCE.out k hlt
          obtain ⟨_, _, kl, pl, rfl, _⟩ := hul.cells
          have hcell1 : wo.cell? ⟨b2, o2 + k * 3, none⟩ = some (.string x[k].1) := (HBB.out.cell (cell_lt g1)).trans g1
          have hcell2 : wo.cell? ⟨b2, o2 + k * 3 + 1, none⟩ = some (.int .i64 x[k].2.1) := (HBB.out.cell (cell_lt g2)).trans g2
          have hcell3 : wo.cell? ⟨b2, o2 + k * 3 + 2, none⟩ = some (.slice pl x[k].2.2.length kl) := (HBB.out.cell (cell_lt g3)).trans g3
          obtain rfl := HPP.out (by omega)
          have HBX : Hid (Below w.heap.size w (wo.alloc (.cells #[.string x[k].1, .int .i64 x[k].2.1, .slice pl x[k].2.2.length kl] 52))) := HBB.out.alloc HBB.out.size _
          clear g1 g2 g3 hul
          go_wp2
          go_ret
          exact ⟨rfl, HBX.out⟩
        · go_wp2
          go_ret
          exact ⟨rfl, HBB.out⟩

set_option maxHeartbeats 4000000 in
set_option maxRecDepth 100000 in
theorem viewSeen_gt_ok (l : List Txt) (acts : List (Txt × Txt)) (who : Txt) (x m : List Evt) (v u t s : Value) (mx : Int) (w : World) (hv : Strs w l v) (hu : Prs w acts u) (ht : Evs w x t) (hs : Evs w m s) (hl : okList okTxt l) (ho : okList (okBoth okTxt okTxt) acts) (hxo : okList okEvt x) (hm : w.cell? ⟨0, 0, none⟩ = some (.int .i64 mx)) (hn : x.length * 48 ≤ 140737488351232) (hle : ¬ x.length ≤ m.length) (hmany : ¬ 3000 < x.length) (hc : checkC l acts = 0) (hw : has l who = true) :
    Calls Tryd.prog 5 #[v, u, .string who, t, s] w fun e w' => e = .returned (.bool true) ∧ Below w.heap.size w w' := by
  have hv0 := hv
  have hu0 := hu
  have ht0 := ht
  have hs0 := hs
  obtain ⟨b0, o0, c0, p0, rfl, _⟩ := hv.cells
  obtain ⟨b1, o1, c1, p1, rfl, _⟩ := hu.cells
  obtain ⟨b2, o2, c2, p2, rfl, hlc2, hcm2, hp2, hcells2⟩ := ht.cells
  obtain ⟨b3, o3, c3, p3, rfl, hlc3, hcm3, _⟩ := hs.cells
  obtain ⟨t0, hi, hz0, hz1, hz2⟩ := info_parts Tryd.info_event
  have HV : Hid (∀ W, Below w.heap.size w W → Strs W l (.slice p0 l.length c0)) := fun W h => hv0.stays (keeps_of_below h)
  have HU : Hid (∀ W, Below w.heap.size w W → Prs W acts (.slice p1 acts.length c1)) := fun W h => hu0.stays (keeps_of_below h)
  have HX : Hid (∀ W, Below w.heap.size w W → Evs W x (.slice p2 x.length c2)) := fun W h => ht0.stays (keeps_of_below h)
  have HMM : Hid (∀ W, Below w.heap.size w W → Evs W m (.slice p3 m.length c3)) := fun W h => hs0.stays (keeps_of_below h)
  have HPP := Lib.hid hp2
  have HCE := Lib.hid hcells2
  have HSN : Hid (Calls Tryd.prog 21 #[.slice p0 l.length c0, .slice p1 acts.length c1, .string who, .slice p2 x.length c2] w fun e w' => ∃ y, e = .returned (.tuple #[y, .int .i64 (seenE l acts who x)]) ∧ Evs w' (seenR l acts who x) y ∧ Below w.heap.size w w') :=
    seen_calls l acts who x _ _ _ w hv0 hu0 ht0 hl hxo
  have HCK : Hid (∀ W, Below w.heap.size w W → Calls Tryd.prog 9 #[.slice p0 l.length c0, .slice p1 acts.length c1] W fun e w' => e = .returned (.int .i64 (checkC l acts)) ∧ Below W.heap.size W w') := fun W h =>
    refCheck_calls l acts _ _ mx W (HV.out W h) (HU.out W h) hl ho ((h.cell (cell_lt hm)).trans hm)
  have HCON : Hid (∀ W, Below w.heap.size w W → Calls Tryd.prog 19 #[.slice p0 l.length c0, .string who] W fun e w' => e = .returned (.bool (has l who)) ∧ W = w') := fun W h => contains_calls l who _ W (HV.out W h)
  have HCL : Hid (∀ W y vy, Below w.heap.size w W → Lbl W y vy → Calls Tryd.prog 28 #[.slice p0 l.length c0, vy] W fun e w' => e = .returned (.int .i64 (labErr l y)) ∧ Below W.heap.size W w') := fun W y vy h hy =>
    refLabel_calls l y _ _ W (HV.out W h) hy
  clear hv hu ht hs hv0 hu0 ht0 hs0 hp2 hcells2 hm hl ho hxo
  have hbig : ¬ 3000 < (x.length : Int) := by omega
  have HLB : Hid (∀ k (hk : k < x.length), labErr l x[k].2.2 ≠ 0 → (∀ j (hj : j < x.length), j < k → labErr l x[j].2.2 = 0) → seenE l acts who x = labErr l x[k].2.2 ∧ seenR l acts who x = []) := fun k hk h1 h2 => seen_label hmany hc hw hk h1 h2
  have HAL : Hid ((∀ j (hj : j < x.length), labErr l x[j].2.2 = 0) → seenE l acts who x = 0 ∧ seenR l acts who x = seenTo l acts who x x.length) := fun h => seen_all hmany hc hw h
  have HSB : Hid (∀ y, labErr l y = 0 → seesB l acts who y = has (readsL (actsF acts) l y) who) := fun y hy => sees_reads hc hw hy
  have HRO : Hid (∀ W y vy, Below w.heap.size w W → Lbl W y vy → labErr l y = 0 → Calls Tryd.prog 29 #[.slice p0 l.length c0, .slice p1 acts.length c1, vy] W fun e w' => ∃ z, e = .returned z ∧ Strs w' (readsL (actsF acts) l y) z ∧ Below W.heap.size W w') := fun W y vy h hy h0 =>
    refReaders_calls l acts y _ _ _ W (HV.out W h) (HU.out W h) hy (checkC_zero hc).2.1 (checkC_zero hc).1 (fun p hp => ((labErr_zero h0).2 p hp).1)
  have HC := Lib.hid hc
  have HW := Lib.hid hw
  clear hc hw hmany
  have HBG : Hid (beginsB x m = false) := by unfold Hid beginsB; simp [hle]
  have hle1 : ¬ (x.length : Int) ≤ (m.length : Int) := by omega
  go_enter Tryd.func5, Tryd.ntmps5
  go_wp2_with (fail)
  refine HSN.out.mono ?_
  rintro e w1 ⟨y, rfl, hy, hb1⟩
  obtain ⟨by_, oy, cy, py, rfl, _⟩ := hy.cells
  have HY := Lib.hid hy
  have HB1 := Lib.hid hb1
  clear hy hb1
  go_wp2_with (fail)
  refine (released_calls x _ _ (HX.out _ HB1.out) hn).mono ?_
  rintro e w2 ⟨rv, ov, rfl, hrv, hov, hb2⟩
  obtain ⟨br, or_, cr, pr, rfl, _⟩ := hrv.cells
  obtain ⟨bo, oo, co, po, rfl, _⟩ := hov.cells
  have HB2 := Lib.hid (HB1.out.trans (hb2.mono HB1.out.size))
  have HY2 := Lib.hid (HY.out.stays (keeps_of_below hb2))
  have HRV := Lib.hid hrv
  have HOV := Lib.hid hov
  clear hb2 hrv hov
  go_wp2_with (fail)
  refine (viewed_calls _).mono ?_
  rintro e w3 ⟨rfl, hb3⟩
  have HB3 := Lib.hid (HB2.out.trans (hb3.mono HB2.out.size))
  have HY3 := Lib.hid (HY2.out.stays (keeps_of_below hb3))
  have HRV3 := Lib.hid (HRV.out.stays (keeps_of_below hb3))
  have HOV3 := Lib.hid (HOV.out.stays (keeps_of_below hb3))
  clear hb3
  go_wp2_with (fail)
  refine (begins_calls x m _ _ _ (HX.out _ HB3.out) (HMM.out _ HB3.out)).mono ?_
  rintro e w4 ⟨rfl, hb4⟩
  rw [HBG.out]
  have HB4 := Lib.hid (HB3.out.trans (hb4.mono HB3.out.size))
  have HY4 := Lib.hid (HY3.out.stays (keeps_of_below hb4))
  have HRV4 := Lib.hid (HRV3.out.stays (keeps_of_below hb4))
  have HOV4 := Lib.hid (HOV3.out.stays (keeps_of_below hb4))
  clear hb4
  obtain ⟨w5, rfl⟩ : ∃ w5, w5 = w4 := ⟨_, rfl⟩
  have HB5 := HB4
  have HY5 := HY4
  have HRV5 := HRV4
  have HOV5 := HOV4
  go_wp2
  go_loopw [15, 16, 63] (fun r o i ws => ∃ (k : Nat) (wo : World) (rv ov : Value), k ≤ x.length ∧ i = .int .i64 k ∧ wo = ws ∧ rv = r ∧ ov = o ∧ Hid (Below w5.heap.size w5 wo) ∧ Hid (wo.ownsRow w5.heap.size 52 3 rv (relTo x k).length ((relTo x k).flatMap evCells)) ∧ Hid (wo.ownsRow w5.heap.size 52 3 ov (othTo x k).length ((othTo x k).flatMap evCells)) ∧ Hid (ApartV rv ov)) (fun _ _ i _ => x.length - (intOf i).toNat)
  case atStart => exact ⟨0, _, _, _, Nat.zero_le _, rfl, rfl, rfl, rfl, Below.refl _ _, World.ownsRow_nil _ _ _ _, World.ownsRow_nil _ _ _ _, fun q h => by cases h⟩
  case round =>
    obtain ⟨k, wo, rv, ov, hk, rfl, rfl, rfl, rfl, HB, HR, HO, HA⟩ := hrel
    have HBW : Hid (Below w.heap.size w wo) := HB5.out.trans (HB.out.mono HB5.out.size)
    by_cases hlt : k < x.length
    · obtain ⟨ul, g1, g2, g3, hul⟩ := HCE.out k hlt
      obtain ⟨_, _, kl, pl, rfl, _⟩ := hul.cells
      have hcell1 : wo.cell? ⟨b2, o2 + k * 3, none⟩ = some (.string x[k].1) := (HBW.out.cell (cell_lt g1)).trans g1
      have hcell2 : wo.cell? ⟨b2, o2 + k * 3 + 1, none⟩ = some (.int .i64 x[k].2.1) := (HBW.out.cell (cell_lt g2)).trans g2
      have hcell3 : wo.cell? ⟨b2, o2 + k * 3 + 2, none⟩ = some (.slice pl x[k].2.2.length kl) := (HBW.out.cell (cell_lt g3)).trans g3
      obtain rfl := HPP.out (by omega)
      obtain ⟨W1, eW⟩ : ∃ W1, wo.alloc (.cells #[.string x[k].1, .int .i64 x[k].2.1, .slice pl x[k].2.2.length kl] 52) = W1 := ⟨_, rfl⟩
      obtain ⟨z1, hW1, m1⟩ := boxes1 eW
      obtain ⟨W2, eW2⟩ : ∃ W2, (W1.alloc (.cells #[.string x[k].1, .int .i64 x[k].2.1, .slice none 0 0] 52)).setCell ⟨W1.heap.size, 2, none⟩ (.slice none 0 0) = W2 := ⟨_, rfl⟩
      have hW2 : Below W1.heap.size W1 W2 := by rw [← eW2]; exact ((Below.refl _ _).alloc (Nat.le_refl _) _).setCell (Nat.le_refl _) _
      have s4 : W2.cell? ⟨W1.heap.size, 0, none⟩ = some (.string x[k].1) := by rw [← eW2, World.cell?_setCell_other _ _ _ _ (by simp), alloc_cell_new _ _ _ _ _ rfl]; rfl
      have s5 : W2.cell? ⟨W1.heap.size, 1, none⟩ = some (.int .i64 x[k].2.1) := by rw [← eW2, World.cell?_setCell_other _ _ _ _ (by simp), alloc_cell_new _ _ _ _ _ rfl]; rfl
      have s6 : W2.cell? ⟨W1.heap.size, 2, none⟩ = some (.slice none 0 0) := by rw [← eW2]; exact World.cell?_setCell_same _ _ _ ((alloc_cell_new _ _ _ _ _ rfl).trans rfl)
      have r1 := m1 0
      have r2 := m1 1
      simp only [List.getElem?_toArray, List.getElem?_cons_zero, List.getElem?_cons_succ] at r1 r2
      have s1 : W2.cell? ⟨wo.heap.size, 0, none⟩ = _ := (hW2.cell (cell_lt r1)).trans r1
      have HB1 : Hid (Below w5.heap.size w5 W2) := HB.out.trans ((hW1.trans (hW2.mono hW1.size)).mono HB.out.size)
      have hR1 := own_below HR.out (hW1.trans (hW2.mono hW1.size))
      have hO1 := own_below HO.out (hW1.trans (hW2.mono hW1.size))
      have hle1 := relTo_le x k
      have hle2 := othTo_le x k
      have hsz1 := HB1.out.size
      clear g1 g2 g3 hul m1 hW1 z1 hW2
      cases hq : isRel x[k] with
      | true =>
        have hx : x[k].1 = ByteArray.empty := eq_of_beq hq
        have HH := Lib.hid (rel_hit hlt hq)
        have q1 : x[k].1.toList = [] := by rw [hx, Lib.toList_data]; rfl
        have q2 : x[k].1.toList.isEmpty = true := by rw [q1]; rfl
        have HO1 := Lib.hid hO1
        clear hq hx hO1
        go_wp2_with (at_builtin; refine wpList_append_own_at _ rfl _ _ 43 rfl w5.heap.size 52 t0 (.agg #[.string ByteArray.empty, .int .i64 0, .slice none 0 0]) 3 48 Tryd.underlying43 hi hz0 hz1 hz2 rfl (by decide) _ _ _ rfl (hR1.alloc _) ⟨W2.heap.size, 0, none⟩ 1 1 (evCells x[k]) rfl rfl ?c1 ?c2 ?c3 ?c4 ?c5 ?_)
        case c1 =>
          intro j u hj
          match j, hj with
          | 0, hj => simp [evCells] at hj; subst hj; simp [Addr.add]
          | 1, hj => simp [evCells] at hj; subst hj; simp [Addr.add]
          | 2, hj => simp [evCells] at hj; subst hj; simp [Addr.add]
        case c2 => intro u hu; simp [evCells] at hu; rcases hu with rfl | rfl | rfl <;> rfl
        case c3 => unfold maxLen; omega
        case c4 => omega
        case c5 => first | omega | (simp; omega)
        · intro v' w6 hown' hgrow _ hat
          have HAP : Hid (ApartV v' ov) := apart_grown HO1.out HA.out (by omega) hat
          have HOO : Hid (w6.ownsRow w5.heap.size 52 3 ov (othTo x k).length ((othTo x k).flatMap evCells)) := own_apart (HO1.out.alloc _) HA.out hgrow
          clear hat s1 s4 s5 s6
          go_wp2
          go_roundw
          case rel =>
            refine ⟨k + 1, _, _, _, by omega, by go_num, rfl, rfl, rfl, (HB1.out.alloc HB1.out.size _).grown hgrow (by simp; omega) (fun q hq => (hR1.lt q hq).1), ?_, ?_, HAP.out⟩
            · unfold Hid
              rw [HH.out.1, List.length_append, List.flatMap_append, List.flatMap_cons, List.flatMap_nil, List.append_nil]
              exact hown'
            · unfold Hid
              rw [HH.out.2]
              exact HOO.out
          case measure => simp [intOf]; omega
      | false =>
        have HH := Lib.hid (rel_miss hlt hq)
        have hne : x[k].1 ≠ ByteArray.empty := fun e => by rw [isRel, e] at hq; simp at hq
        have hne2 : x[k].1.toList ≠ [] := fun e => hne (txt_ext (by rw [Lib.toList_data] at e; exact e))
        have q1 : ¬ x[k].1.toList = [] := hne2
        have q2 : x[k].1.toList.isEmpty = false := by
          cases h : x[k].1.toList with
          | nil => exact absurd h hne2
          | cons => rfl
        have HR1 := Lib.hid hR1
        clear hq hne hne2 hR1
        go_wp2_with (at_builtin; refine wpList_append_own_at _ rfl _ _ 43 rfl w5.heap.size 52 t0 (.agg #[.string ByteArray.empty, .int .i64 0, .slice none 0 0]) 3 48 Tryd.underlying43 hi hz0 hz1 hz2 rfl (by decide) _ _ _ rfl (hO1.alloc _) ⟨W2.heap.size, 0, none⟩ 1 1 (evCells x[k]) rfl rfl ?c1 ?c2 ?c3 ?c4 ?c5 ?_)
        case c1 =>
          intro j u hj
          match j, hj with
          | 0, hj => simp [evCells] at hj; subst hj; simp [Addr.add]
          | 1, hj => simp [evCells] at hj; subst hj; simp [Addr.add]
          | 2, hj => simp [evCells] at hj; subst hj; simp [Addr.add]
        case c2 => intro u hu; simp [evCells] at hu; rcases hu with rfl | rfl | rfl <;> rfl
        case c3 => unfold maxLen; omega
        case c4 => omega
        case c5 => first | omega | (simp; omega)
        · intro v' w6 hown' hgrow _ hat
          have HAP : Hid (ApartV v' rv) := apart_grown HR1.out HA.out.symm (by omega) hat
          have HOO : Hid (w6.ownsRow w5.heap.size 52 3 rv (relTo x k).length ((relTo x k).flatMap evCells)) := own_apart (HR1.out.alloc _) HA.out.symm hgrow
          clear hat s1 s4 s5 s6
          go_wp2
          go_roundw
          case rel =>
            refine ⟨k + 1, _, _, _, by omega, by go_num, rfl, rfl, rfl, (HB1.out.alloc HB1.out.size _).grown hgrow (by simp; omega) (fun q hq => (hO1.lt q hq).1), ?_, ?_, HAP.out.symm⟩
            · unfold Hid
              rw [HH.out.1]
              exact HOO.out
            · unfold Hid
              rw [HH.out.2, List.length_append, List.flatMap_append, List.flatMap_cons, List.flatMap_nil, List.append_nil]
              exact hown'
          case measure => simp [intOf]; omega
    · obtain rfl : k = x.length := by omega
      have hRv := own_evs HR.out
      have hOv := own_evs HO.out
      obtain ⟨bR, oR, cR, pR, rfl, _⟩ := hRv.cells
      obtain ⟨bO, oO, cO, pO, rfl, _⟩ := hOv.cells
      have HRW := Lib.hid hRv
      have HOW := Lib.hid hOv
      have HE1 := Lib.hid (eqEv_calls ((relTo x x.length).map bareEv) _ _ wo (HRV5.out.stays (keeps_of_below HB.out)) HRW.out (bare_map _))
      clear hRv hOv HR HO HA
      simp only [List.length_map] at HE1
      go_wp2_with (fail)
      refine HE1.out.mono ?_
      rintro e w6 ⟨rfl, hb6⟩
      have HB56 := Lib.hid (HB.out.trans (hb6.mono HB.out.size))
      have HE2 := Lib.hid (eqEv_calls ((othTo x x.length).map bareEv) _ _ w6 (HOV5.out.stays (keeps_of_below HB56.out)) (HOW.out.stays (keeps_of_below hb6)) (bare_map _))
      simp only [List.length_map] at HE2
      clear hb6
      go_wp2_with (fail)
      refine HE2.out.mono ?_
      rintro e w7 ⟨rfl, hb7⟩
      have HB57 := Lib.hid (HB56.out.trans (hb7.mono HB56.out.size))
      have HB7 := Lib.hid (HB5.out.trans (HB57.out.mono HB5.out.size))
      have HY7 := Lib.hid (HY5.out.stays (keeps_of_below HB57.out))
      clear hb7
      go_wp2_with (fail)
      refine (HCK.out _ HB7.out).mono ?_
      rintro e w8 ⟨rfl, hb8⟩
      rw [HC.out]
      have HB8 := Lib.hid (HB7.out.trans (hb8.mono HB7.out.size))
      have HY8 := Lib.hid (HY7.out.stays (keeps_of_below hb8))
      clear hb8
      go_wp2_with (fail)
      refine (HCON.out _ HB8.out).mono ?_
      rintro e w' ⟨rfl, rfl⟩
      rw [HW.out]
      go_wp2
      go_loopw [20, 21, 110] (fun b z i ws => ∃ (k : Nat) (wo : World) (zv : Value), k ≤ x.length ∧ i = .int .i64 k ∧ b = .int .i64 0 ∧ wo = ws ∧ zv = z ∧ Hid (Below w8.heap.size w8 wo) ∧ Hid (wo.ownsRow w8.heap.size 52 3 zv (seenTo l acts who x k).length (((x.take k).filter fun e => seesB l acts who e.2.2).flatMap evCells)) ∧ Hid (∀ j (hj : j < x.length), j < k → labErr l x[j].2.2 = 0)) (fun _ _ i _ => x.length - (intOf i).toNat)
      case atStart => exact ⟨0, _, _, Nat.zero_le _, rfl, rfl, rfl, rfl, Below.refl _ _, World.ownsRow_nil _ _ _ _, fun j _ hj => absurd hj (Nat.not_lt_zero _)⟩
      case round =>
        obtain ⟨k, wo, zv, hk, rfl, rfl, rfl, rfl, HBB, HZ, HN⟩ := hrel
        have HBW : Hid (Below w.heap.size w wo) := HB8.out.trans (HBB.out.mono HB8.out.size)
        by_cases hlt : k < x.length
        · obtain ⟨ul, g1, g2, g3, hul⟩ := HCE.out k hlt
          obtain ⟨_, _, kl, pl, rfl, _⟩ := hul.cells
          have hcell1 : wo.cell? ⟨b2, o2 + k * 3, none⟩ = some (.string x[k].1) := (HBW.out.cell (cell_lt g1)).trans g1
          have hcell2 : wo.cell? ⟨b2, o2 + k * 3 + 1, none⟩ = some (.int .i64 x[k].2.1) := (HBW.out.cell (cell_lt g2)).trans g2
          have hcell3 : wo.cell? ⟨b2, o2 + k * 3 + 2, none⟩ = some (.slice pl x[k].2.2.length kl) := (HBW.out.cell (cell_lt g3)).trans g3
          obtain rfl := HPP.out (by omega)
          obtain ⟨W1, eW⟩ : ∃ W1, wo.alloc (.cells #[.string x[k].1, .int .i64 x[k].2.1, .slice pl x[k].2.2.length kl] 52) = W1 := ⟨_, rfl⟩
          obtain ⟨z1, hW1, m1⟩ := boxes1 eW
          have r1 := m1 0
          have r2 := m1 1
          have r3 := m1 2
          simp only [List.getElem?_toArray, List.getElem?_cons_zero, List.getElem?_cons_succ] at r1 r2 r3
          have HR1 := Lib.hid r1
          have HR2 := Lib.hid r2
          have HR3 := Lib.hid r3
          have HB81 : Hid (Below w8.heap.size w8 W1) := HBB.out.trans (hW1.mono HBB.out.size)
          have HBW1 : Hid (Below w.heap.size w W1) := HBW.out.trans (hW1.mono HBW.out.size)
          have HZ1 := Lib.hid (own_below HZ.out hW1)
          have HUL : Hid (∀ W, Below w.heap.size w W → Lbl W x[k].2.2 (.slice pl x[k].2.2.length kl)) := fun W h => hul.stays (keeps_of_below h)
          clear g1 g2 g3 hul m1 hW1
          by_cases he : labErr l x[k].2.2 = 0
          · have HE := Lib.hid he
            have HSBK := Lib.hid (HSB.out _ he)
            have HN2 : Hid (∀ j (hj : j < x.length), j < k + 1 → labErr l x[j].2.2 = 0) := fun j hj h => by
              by_cases e : j = k
              · subst e; exact HE.out
              · exact HN.out j hj (by omega)
            clear he
            go_wp2_with (fail)
            refine (HCL.out _ _ _ HBW1.out (HUL.out _ HBW1.out)).mono ?_
            rintro e w9 ⟨rfl, hb9⟩
            rw [HE.out]
            have h9a : w9.cell? ⟨wo.heap.size, 2, none⟩ = _ := (hb9.cell (cell_lt HR3.out)).trans HR3.out
            have HBW9 : Hid (Below w.heap.size w w9) := HBW1.out.trans (hb9.mono HBW1.out.size)
            have HBB9 := Lib.hid hb9
            clear r1 r2 r3 hb9
            go_wp2_with (fail)
            refine (HRO.out _ _ _ HBW9.out (HUL.out _ HBW9.out) HE.out).mono ?_
            rintro e w10 ⟨zr, rfl, hzr, hb10⟩
            obtain ⟨bz, oz, cz, pz, rfl, _⟩ := hzr.cells
            have HZR := Lib.hid hzr
            have HBB10 : Hid (Below W1.heap.size W1 w10) := HBB9.out.trans (hb10.mono HBB9.out.size)
            have HB810 : Hid (Below w8.heap.size w8 w10) := HB81.out.trans (HBB10.out.mono HB81.out.size)
            clear hzr hb10 h9a
            go_wp2_with (fail)
            refine (contains_calls _ who _ _ HZR.out).mono ?_
            rintro e w' ⟨rfl, rfl⟩
            rw [← HSBK.out]
            cases hsb : seesB l acts who x[k].2.2 with
            | false =>
              have HSS : Hid (seenTo l acts who x (k + 1) = seenTo l acts who x k ∧ (x.take (k + 1)).filter (fun e => seesB l acts who e.2.2) = (x.take k).filter fun e => seesB l acts who e.2.2) := ⟨seenTo_miss hlt hsb, by rw [List.take_succ_eq_append_getElem hlt, List.filter_append]; simp [hsb]⟩
              have HZ10 := Lib.hid (own_below HZ1.out HBB10.out)
              clear hsb
              go_wp2
              go_roundw
              case rel => exact ⟨k + 1, _, _, by omega, by go_num, rfl, rfl, rfl, HB810.out, by unfold Hid; rw [HSS.out.1, HSS.out.2]; exact HZ10.out, HN2.out⟩
              case measure => simp [intOf]; omega
            | true =>
              have HSS : Hid (seenTo l acts who x (k + 1) = seenTo l acts who x k ++ [bareEv x[k]] ∧ (x.take (k + 1)).filter (fun e => seesB l acts who e.2.2) = (x.take k).filter (fun e => seesB l acts who e.2.2) ++ [x[k]]) := ⟨seenTo_hit hlt hsb, by rw [List.take_succ_eq_append_getElem hlt, List.filter_append]; simp [hsb]⟩
              have hZ10 := own_below HZ1.out HBB10.out
              have h10a : w10.cell? ⟨wo.heap.size, 0, none⟩ = _ := (HBB10.out.cell (cell_lt HR1.out)).trans HR1.out
              have h10b : w10.cell? ⟨wo.heap.size, 1, none⟩ = _ := (HBB10.out.cell (cell_lt HR2.out)).trans HR2.out
              have hle := seenTo_le l acts who x k
              have hsz := HB810.out.size
              clear hsb
              go_wp2_with (at_builtin; refine wpList_append_own _ rfl _ _ 43 rfl w8.heap.size 52 t0 (.agg #[.string ByteArray.empty, .int .i64 0, .slice none 0 0]) 3 48 Tryd.underlying43 hi hz0 hz1 hz2 rfl (by decide) _ _ _ rfl (hZ10.alloc _) ⟨w10.heap.size, 0, none⟩ 1 1 (evCells x[k]) rfl rfl ?c1 ?c2 ?c3 ?c4 ?c5 ?_)
              case c1 =>
                intro j u hj
                match j, hj with
                | 0, hj => simp [evCells] at hj; subst hj; simp [Addr.add]
                | 1, hj => simp [evCells] at hj; subst hj; simp [Addr.add]
                | 2, hj => simp [evCells] at hj; subst hj; simp [Addr.add]
              case c2 => intro u hu; simp [evCells] at hu; rcases hu with rfl | rfl | rfl <;> rfl
              case c3 => unfold maxLen; omega
              case c4 => omega
              case c5 => first | omega | (simp; omega)
              · intro v' w11 hown' hgrow _
                go_wp2
                go_roundw
                case rel =>
                  refine ⟨k + 1, _, _, by omega, by go_num, rfl, rfl, rfl, (HB810.out.alloc HB810.out.size _).grown hgrow (by simp; omega) (fun q hq => (hZ10.lt q hq).1), ?_, HN2.out⟩
                  unfold Hid
                  rw [HSS.out.1, HSS.out.2, List.length_append, List.flatMap_append, List.flatMap_cons, List.flatMap_nil, List.append_nil]
                  exact hown'
                case measure => simp [intOf]; omega
          · obtain ⟨hs1, hs2⟩ := HLB.out k hlt he HN.out
            have HS1 := Lib.hid hs1
            have hq1 : (labErr l x[k].2.2 != 0) = true := by simpa using he
            have hq2 : (labErr l x[k].2.2 == 0) = false := by simpa using he
            have hq3 : (seenE l acts who x == labErr l x[k].2.2) = true := by rw [hs1]; exact beq_self_eq_true _
            have hq5 : (seenR l acts who x).length = 0 := by rw [hs2]; rfl
            have hq4 : (((seenR l acts who x).length : Int) == 0) = true := by rw [hq5]; rfl
            clear he hs1 hs2 hq5
            go_wp2_with (fail)
            refine (HCL.out _ _ _ HBW1.out (HUL.out _ HBW1.out)).mono ?_
            rintro e w9 ⟨rfl, hb9⟩
            have HBW9 : Hid (Below w.heap.size w w9) := HBW1.out.trans (hb9.mono HBW1.out.size)
            clear r1 r2 r3 hb9
            go_wp2
            go_ret
            exact ⟨rfl, HBW9.out⟩
        · obtain rfl : k = x.length := by omega
          obtain ⟨hs1, hs2⟩ := HAL.out fun j hj => HN.out j hj hj
          have HS2 := Lib.hid hs2
          have hq3 : (seenE l acts who x == 0) = true := by rw [hs1]; rfl
          have hZv : Evs wo (seenTo l acts who x x.length) zv := SliceOf.of_rows HZ.out (ev_rows _ _)
          rw [← hs2] at hZv
          obtain ⟨bq, oq, cq, pq, rfl, _⟩ := hZv.cells
          have HE3 := Lib.hid (eqEv_calls (seenR l acts who x) _ _ wo (HY8.out.stays (keeps_of_below HBB.out)) hZv (by rw [hs2]; unfold seenTo; exact bare_map _))
          clear hs1 hs2 hZv HZ
          go_wp2_with (fail)
          refine HE3.out.mono ?_
          rintro e w12 ⟨rfl, hb12⟩
          have HB12 : Hid (Below w.heap.size w w12) := HBW.out.trans (hb12.mono HBW.out.size)
          clear hb12
          go_wp2
          go_ret
          exact ⟨rfl, HB12.out⟩

theorem viewSeen_calls (l : List Txt) (acts : List (Txt × Txt)) (who : Txt) (x m : List Evt) (v u t s : Value) (mx : Int) (w : World) (hv : Strs w l v) (hu : Prs w acts u) (ht : Evs w x t) (hs : Evs w m s) (hl : okList okTxt l) (ho : okList (okBoth okTxt okTxt) acts) (hxo : okList okEvt x) (hm : w.cell? ⟨0, 0, none⟩ = some (.int .i64 mx)) (hn : x.length * 48 ≤ 140737488351232) :
    Calls Tryd.prog 5 #[v, u, .string who, t, s] w fun e w' => e = .returned (.bool true) ∧ Below w.heap.size w w' := by
  by_cases hle : x.length ≤ m.length
  · by_cases hmany : 3000 < x.length
    · exact viewSeen_le_many l acts who x m v u t s mx w hv hu ht hs hl ho hxo hm hn hle hmany
    · by_cases hc : checkC l acts = 0
      · cases hw : has l who with
        | false => exact viewSeen_le_who l acts who x m v u t s mx w hv hu ht hs hl ho hxo hm hn hle hmany hc hw
        | true => exact viewSeen_le_ok l acts who x m v u t s mx w hv hu ht hs hl ho hxo hm hn hle hmany hc hw
      · exact viewSeen_le_chiefs l acts who x m v u t s mx w hv hu ht hs hl ho hxo hm hn hle hmany hc
  · by_cases hmany : 3000 < x.length
    · exact viewSeen_gt_many l acts who x m v u t s mx w hv hu ht hs hl ho hxo hm hn hle hmany
    · by_cases hc : checkC l acts = 0
      · cases hw : has l who with
        | false => exact viewSeen_gt_who l acts who x m v u t s mx w hv hu ht hs hl ho hxo hm hn hle hmany hc hw
        | true => exact viewSeen_gt_ok l acts who x m v u t s mx w hv hu ht hs hl ho hxo hm hn hle hmany hc hw
      · exact viewSeen_gt_chiefs l acts who x m v u t s mx w hv hu ht hs hl ho hxo hm hn hle hmany hc
end Go.Proofs.YtfbieagkhbmgjaaDoor
