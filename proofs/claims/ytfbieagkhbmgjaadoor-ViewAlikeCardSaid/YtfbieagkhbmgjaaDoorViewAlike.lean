/-
  cloisterlaw.ViewAlike: the call returns true.
-/
import Derived.Test.YtfbieagkhbmgjaaDoorAlike
import Derived.Test.YtfbieagkhbmgjaaDoorLabelFlows
import Derived.Test.YtfbieagkhbmgjaaDoorViewed
import Derived.Deep.RegionHeld3
namespace Go.Proofs.YtfbieagkhbmgjaaDoor
open Go.RowKit Go.Maps
set_option linter.unusedVariables false
set_option linter.unusedSimpArgs false

set_option maxHeartbeats 2000000 in
set_option maxRecDepth 100000 in
theorem seesR_calls (l : List Txt) (acts : List (Txt × Txt)) (who : Txt) (y : Lab) (v1 v2 vy : Value) (mx : Int) (g gw : Nat) (w : World) (hv : Strs w l v1) (hu : Prs w acts v2) (hy : Lbl w y vy) (hl : okList okTxt l) (ho : okList (okBoth okTxt okTxt) acts) (hm : w.cell? ⟨0, 0, none⟩ = some (.int .i64 mx))
    (h0 : w.cell? ⟨g, 0, none⟩ = some v1) (h1 : w.cell? ⟨g, 1, none⟩ = some v2) (h2 : w.cell? ⟨gw, 0, none⟩ = some (.string who)) :
    Calls Tryd.prog 32 #[vy, .pointer (some ⟨g, 0, none⟩), .pointer (some ⟨gw, 0, none⟩)] w fun e w' => e = .returned (.tuple #[.bool (seesB l acts who y), .int .i64 (seesE l acts who y)]) ∧ Below w.heap.size w w' := by
  have hv0 := hv
  have hu0 := hu
  have hy0 := hy
  obtain ⟨b0, o0, c0, p0, rfl, _⟩ := hv.cells
  obtain ⟨b1, o1, c1, p1, rfl, _⟩ := hu.cells
  obtain ⟨b2, o2, c2, p2, rfl, _⟩ := hy.cells
  have HV : Hid (∀ W, Below w.heap.size w W → Strs W l (.slice p0 l.length c0)) := fun W h => hv0.stays (keeps_of_below h)
  have HU : Hid (∀ W, Below w.heap.size w W → Prs W acts (.slice p1 acts.length c1)) := fun W h => hu0.stays (keeps_of_below h)
  have HY : Hid (∀ W, Below w.heap.size w W → Lbl W y (.slice p2 y.length c2)) := fun W h => hy0.stays (keeps_of_below h)
  have HB1L : Hid (Calls Tryd.prog 33 #[.slice p0 l.length c0, .slice p1 acts.length c1, .slice (some ⟨w.heap.size, 0, none⟩) 1 1] (w.alloc (.cells #[.slice p2 y.length c2] 50)) fun e w' => e = .returned (.int .i64 (labE l acts y)) ∧ Below w.heap.size w w') := by
    have hz : Below w.heap.size w (w.alloc (.cells #[.slice p2 y.length c2] 50)) := (Below.refl _ _).alloc (Nat.le_refl _) _
    have := badLabels_calls l acts [y] _ _ _ mx _ (HV.out _ hz) (HU.out _ hz) (lbls_one w y _ hy0) hl ho ((hz.cell (cell_lt hm)).trans hm) (by simp)
    rw [badL_one] at this
    exact this.mono fun e w' hh => ⟨hh.1, hz.trans (hh.2.mono hz.size)⟩
  have HCON : Hid (∀ W, Below w.heap.size w W → Calls Tryd.prog 19 #[.slice p0 l.length c0, .string who] W fun e w' => e = .returned (.bool (has l who)) ∧ W = w') := fun W h => contains_calls l who _ W (HV.out W h)
  have HF0 : Hid (∀ W, Below w.heap.size w W → W.cell? ⟨g, 0, none⟩ = some (.slice p0 l.length c0)) := fun W h => (h.cell (cell_lt h0)).trans h0
  have HF1 : Hid (∀ W, Below w.heap.size w W → W.cell? ⟨g, 1, none⟩ = some (.slice p1 acts.length c1)) := fun W h => (h.cell (cell_lt h1)).trans h1
  have HF2 : Hid (∀ W, Below w.heap.size w W → W.cell? ⟨gw, 0, none⟩ = some (.string who)) := fun W h => (h.cell (cell_lt h2)).trans h2
  clear hv hu hy hv0 hu0 hy0 hm hl ho
  by_cases he : labE l acts y = 0
  · have HE := Lib.hid he
    cases hw : has l who with
    | false =>
      have HX : Hid (seesE l acts who y = 5 ∧ seesB l acts who y = false) := by
        have e : seesE l acts who y = 5 := by unfold seesE; rw [if_neg (by omega), hw]; rfl
        exact ⟨e, by unfold seesB; rw [e]; rfl⟩
      have HW := Lib.hid hw
      clear he hw
      go_enter Tryd.func32, Tryd.ntmps32
      go_wp2_with (fail)
      refine HB1L.out.mono ?_
      rintro e w1 ⟨rfl, hb1⟩
      rw [HE.out]
      have HB1 := Lib.hid hb1
      have k0 := HF0.out _ hb1
      have k1 := HF1.out _ hb1
      have k2 := HF2.out _ hb1
      clear hb1 h0 h1 h2
      go_wp2_with (fail)
      refine (HCON.out _ HB1.out).mono ?_
      rintro e w' ⟨rfl, rfl⟩
      rw [HW.out]
      go_wp2
      go_ret2
      exact ⟨by rw [HX.out.1, HX.out.2]; rfl, HB1.out⟩
    | true =>
      obtain ⟨hc, hr⟩ := labE_check he
      have HX : Hid (seesE l acts who y = 0 ∧ seesB l acts who y = has (readsL (actsF acts) l y) who) := by
        have e : seesE l acts who y = 0 := by unfold seesE; rw [if_neg (by omega), hw]; rfl
        refine ⟨e, ?_⟩
        unfold seesB readsR
        rw [e, if_pos he, reads_acts hc (right_of he)]
        rfl
      have HRO : Hid (∀ W, Below w.heap.size w W → Calls Tryd.prog 29 #[.slice p0 l.length c0, .slice p1 acts.length c1, .slice p2 y.length c2] W fun e w' => ∃ z, e = .returned z ∧ Strs w' (readsL (actsF acts) l y) z ∧ Below W.heap.size W w') := fun W h =>
        refReaders_calls l acts y _ _ _ W (HV.out W h) (HU.out W h) (HY.out W h) (checkC_zero hc).2.1 (checkC_zero hc).1 (fun p hp => ((labErr_zero hr).2 p hp).1)
      have HW := Lib.hid hw
      clear he hw hc hr
      go_enter Tryd.func32, Tryd.ntmps32
      go_wp2_with (fail)
      refine HB1L.out.mono ?_
      rintro e w1 ⟨rfl, hb1⟩
      rw [HE.out]
      have HB1 := Lib.hid hb1
      have k0 := HF0.out _ hb1
      have k1 := HF1.out _ hb1
      have k2 := HF2.out _ hb1
      clear hb1 h0 h1 h2
      go_wp2_with (fail)
      refine (HCON.out _ HB1.out).mono ?_
      rintro e w' ⟨rfl, rfl⟩
      rw [HW.out]
      go_wp2
      go_region_held3 (fun w' => w'.cell? ⟨g, 0, none⟩ = some (.slice p0 l.length c0) ∧ w'.cell? ⟨g, 1, none⟩ = some (.slice p1 acts.length c1) ∧ w'.cell? ⟨gw, 0, none⟩ = some (.string who))
        (first | exact ⟨k0, k1, k2⟩ | exact ⟨m0, m1, m2⟩)
        (first
          | (go_at_call 29
             refine (HRO.out _ HB1.out.drew).mono ?_
             rintro e w6 ⟨z, rfl, hz, hb6⟩
             have hb6' : Below w.heap.size w w6 := HB1.out.drew.trans (hb6.mono HB1.out.drew.size)
             have m0 := HF0.out _ hb6'
             have m1 := HF1.out _ hb6'
             have m2 := HF2.out _ hb6')
          | (go_at_call 19
             refine (contains_calls _ who _ _ hz).mono ?_
             rintro e w7 ⟨rfl, rfl⟩))
      all_goals (try go_wp2)
      all_goals go_ret2
      all_goals exact ⟨by rw [HX.out.1, HX.out.2]; rfl, hb6'⟩
  · have HX : Hid (seesE l acts who y = labE l acts y ∧ seesB l acts who y = false) := by
      have e : seesE l acts who y = labE l acts y := by unfold seesE; rw [if_pos he]
      exact ⟨e, by unfold seesB; rw [e]; simp [he]⟩
    have hq1 : (labE l acts y != 0) = true := by simpa using he
    have hq2 : (labE l acts y == 0) = false := by simpa using he
    clear he
    go_enter Tryd.func32, Tryd.ntmps32
    go_wp2_with (fail)
    refine HB1L.out.mono ?_
    rintro e w1 ⟨rfl, hb1⟩
    go_wp2
    go_ret2
    exact ⟨by rw [HX.out.1, HX.out.2]; rfl, hb1⟩

set_option maxHeartbeats 4000000 in
set_option maxRecDepth 100000 in
theorem viewAlike_calls (l : List Txt) (acts : List (Txt × Txt)) (who : Txt) (x : Lab) (ch : List Chn) (a b : List (List Int)) (v1 v2 v3 vx va vb : Value) (p4 : Option Addr) (n4 c4 : Nat) (mx : Int) (w : World) (hv : Strs w l v1) (hu : Prs w acts v2) (hc : Chns w ch v3) (hx : Lbl w x vx) (ha : NumsL w a va) (hb : NumsL w b vb)
    (hl : okList okTxt l) (ho : okList (okBoth okTxt okTxt) acts) (hco : okList okChn ch) (hxo : okLab x) (hm : w.cell? ⟨0, 0, none⟩ = some (.int .i64 mx)) :
    Calls Tryd.prog 6 #[.agg #[v1, v2, v3, .slice p4 n4 c4], .string who, vx, va, vb] w fun e w' => e = .returned (.bool true) ∧ Below w.heap.size w w' := by
  have hv0 := hv
  have hu0 := hu
  have hc0 := hc
  have hx0 := hx
  have ha0 := ha
  have hb0 := hb
  obtain ⟨b0, o0, c0, p0, rfl, _⟩ := hv.cells
  obtain ⟨b1, o1, c1, p1, rfl, _⟩ := hu.cells
  obtain ⟨b2, o2, c2, p2, rfl, hlc2, hcm2, hp2, hcells2⟩ := hc.cells
  obtain ⟨b3, o3, c3, p3, rfl, hlc3, hcm3, hp3, hcells3⟩ := ha.cells
  obtain ⟨b5, o5, c5, p5, rfl, hlc5, hcm5, hp5, hcells5⟩ := hb.cells
  obtain ⟨b6, o6, c6, p6, rfl, _⟩ := hx.cells
  have HV : Hid (∀ W, Below w.heap.size w W → Strs W l (.slice p0 l.length c0)) := fun W h => hv0.stays (keeps_of_below h)
  have HU : Hid (∀ W, Below w.heap.size w W → Prs W acts (.slice p1 acts.length c1)) := fun W h => hu0.stays (keeps_of_below h)
  have HXL : Hid (∀ W, Below w.heap.size w W → Lbl W x (.slice p6 x.length c6)) := fun W h => hx0.stays (keeps_of_below h)
  have HAL : Hid (∀ W, Below w.heap.size w W → Calls Tryd.prog 31 #[.agg #[.slice p0 l.length c0, .slice p1 acts.length c1, .slice p2 ch.length c2, .slice p4 n4 c4], .string who, .slice p3 a.length c3, .slice p5 b.length c5] W fun e w' => e = .returned (.tuple #[.bool (alikeB2 l acts who ch a b), .int .i64 (alikeE2 l acts who ch a b)]) ∧ Below W.heap.size W w') := fun W h =>
    alike_calls l acts who ch a b _ _ _ _ _ p4 n4 c4 W (HV.out W h) (HU.out W h) (hc0.stays (keeps_of_below h)) (ha0.stays (keeps_of_below h)) (hb0.stays (keeps_of_below h)) hl hco
  have HSE : Hid (∀ W, Below w.heap.size w W → Calls Tryd.prog 30 #[.slice p0 l.length c0, .slice p1 acts.length c1, .string who, .slice p6 x.length c6] W fun e w' => e = .returned (.tuple #[.bool (seesB l acts who x), .int .i64 (seesE l acts who x)]) ∧ Below W.heap.size W w') := fun W h =>
    sees_calls l acts who x _ _ _ W (HV.out W h) (HU.out W h) (HXL.out W h) hl hxo
  have HSR : Hid (∀ W y vy g gw, Below w.heap.size w W → Lbl W y vy → W.cell? ⟨g, 0, none⟩ = some (.slice p0 l.length c0) → W.cell? ⟨g, 1, none⟩ = some (.slice p1 acts.length c1) → W.cell? ⟨gw, 0, none⟩ = some (.string who) →
      Calls Tryd.prog 32 #[vy, .pointer (some ⟨g, 0, none⟩), .pointer (some ⟨gw, 0, none⟩)] W fun e w' => e = .returned (.tuple #[.bool (seesB l acts who y), .int .i64 (seesE l acts who y)]) ∧ Below W.heap.size W w') := fun W y vy g gw h hy h0 h1 h2 =>
    seesR_calls l acts who y _ _ vy mx g gw W (HV.out W h) (HU.out W h) hy hl ho ((h.cell (cell_lt hm)).trans hm) h0 h1 h2
  have HP2 := Lib.hid hp2
  have HP3 := Lib.hid hp3
  have HP5 := Lib.hid hp5
  have HC2 := Lib.hid hcells2
  have HC3 := Lib.hid hcells3
  have HC5 := Lib.hid hcells5
  obtain ⟨W0, eW⟩ : ∃ W0, (w.alloc (.cells #[.slice p0 l.length c0, .slice p1 acts.length c1, .slice p2 ch.length c2, .slice p4 n4 c4] 61)).alloc (.cells #[.string who] 9) = W0 := ⟨_, rfl⟩
  obtain ⟨z0, hW0, m0, m1⟩ := boxes2 eW
  have j0 := m0 0
  have j1 := m0 1
  have j2 := m0 2
  have j3 := m0 3
  have j4 := m1 0
  simp only [List.getElem?_toArray, List.getElem?_cons_zero, List.getElem?_cons_succ] at j0 j1 j2 j3 j4
  have HW0 := Lib.hid hW0
  have HF : Hid (∀ W, Below W0.heap.size W0 W → W.cell? ⟨w.heap.size, 0, none⟩ = some (.slice p0 l.length c0) ∧ W.cell? ⟨w.heap.size, 1, none⟩ = some (.slice p1 acts.length c1) ∧ W.cell? ⟨w.heap.size, 2, none⟩ = some (.slice p2 ch.length c2) ∧ W.cell? ⟨w.heap.size, 3, none⟩ = some (.slice p4 n4 c4) ∧ W.cell? ⟨w.heap.size + 1, 0, none⟩ = some (.string who)) := fun W h =>
    ⟨(h.cell (cell_lt j0)).trans j0, (h.cell (cell_lt j1)).trans j1, (h.cell (cell_lt j2)).trans j2, (h.cell (cell_lt j3)).trans j3, (h.cell (cell_lt j4)).trans j4⟩
  clear hv hu hc hx ha hb hv0 hu0 hc0 hx0 ha0 hb0 hp2 hp3 hp5 hcells2 hcells3 hcells5 hl ho hco hxo hm m0 m1 hW0 z0
  have eg : ∀ args w, (callFunc 32 args).run Tryd.prog w = .ok (.enter 32 args) w := enters_at Tryd.func32 (by kernel_rfl) rfl
  by_cases h1 : a.length = ch.length
  · have t1 : ((a.length : Int) != (ch.length : Int)) = false := by simp [h1]
    by_cases h2 : b.length = ch.length
    · have t2 : ((b.length : Int) != (ch.length : Int)) = false := by simp [h2]
      by_cases h3 : 6 < a.length
      · have t3 : 6 < (a.length : Int) := by omega
        have HX := Lib.hid (alike_bad (l := l) (acts := acts) (who := who) (ch := ch) (a := a) (b := b) (by unfold badA; simp [h3]))
        clear h1 h2
        have hq : (alikeE2 l acts who ch a b == 4) = true := by rw [HX.out.1]; rfl
        go_enter Tryd.func6, Tryd.ntmps6
        go_wp2_with (fail)
        refine (HSE.out _ HW0.out).mono ?_
        rintro e w1 ⟨rfl, hb1⟩
        have HB1 := Lib.hid hb1
        have HBW1 : Hid (Below w.heap.size w w1) := HW0.out.trans (hb1.mono HW0.out.size)
        obtain ⟨a0, a1, a2, a3, a4⟩ := HF.out _ hb1
        clear hb1 j0 j1 j2 j3 j4
        go_wp2_with (fail)
        refine (HAL.out _ HBW1.out).mono ?_
        rintro e w2 ⟨rfl, hb2⟩
        have HB2 := Lib.hid (HB1.out.trans (hb2.mono HB1.out.size))
        have HBW2 : Hid (Below w.heap.size w w2) := HBW1.out.trans (hb2.mono HBW1.out.size)
        clear hb2 a0 a1 a2 a3 a4
        go_wp2_with (fail)
        refine (HSR.out _ x _ _ _ HBW2.out (HXL.out _ HBW2.out) (HF.out _ HB2.out).1 (HF.out _ HB2.out).2.1 (HF.out _ HB2.out).2.2.2.2).mono ?_
        rintro e w3 ⟨rfl, hb3⟩
        have HB3 := Lib.hid (HB2.out.trans (hb3.mono HB2.out.size))
        have HBW3 : Hid (Below w.heap.size w w3) := HBW2.out.trans (hb3.mono HBW2.out.size)
        clear hb3
        have e1 : (seesE l acts who x != seesE l acts who x) = false := bne_self_eq_false _
        have e2 : (seesB l acts who x != seesB l acts who x) = false := bne_self_eq_false _
        go_wp2_with (fail)
        refine (viewed_calls _).mono ?_
        rintro e w4 ⟨rfl, hb4⟩
        have HB4 := Lib.hid (HB3.out.trans (hb4.mono HB3.out.size))
        have HBW4 : Hid (Below w.heap.size w w4) := HBW3.out.trans (hb4.mono HBW3.out.size)
        obtain ⟨a0, a1, a2, a3, a4⟩ := HF.out _ HB4.out
        clear hb4 a0 a1 a3 a4
        go_wp2
        go_ret
        exact ⟨by rw [HX.out.2]; rfl, HBW4.out⟩
      · have t3 : ¬ 6 < (a.length : Int) := by omega
        have HBD : Hid (badA ch a b = false) := by unfold Hid badA; simp [h1, h2]; omega
        have H1 := Lib.hid h1
        have H2 := Lib.hid h2
        clear h1 h2
        go_enter Tryd.func6, Tryd.ntmps6
        go_wp2_with (fail)
        refine (HSE.out _ HW0.out).mono ?_
        rintro e w1 ⟨rfl, hb1⟩
        have HB1 := Lib.hid hb1
        have HBW1 : Hid (Below w.heap.size w w1) := HW0.out.trans (hb1.mono HW0.out.size)
        obtain ⟨a0, a1, a2, a3, a4⟩ := HF.out _ hb1
        clear hb1 j0 j1 j2 j3 j4
        go_wp2_with (fail)
        refine (HAL.out _ HBW1.out).mono ?_
        rintro e w2 ⟨rfl, hb2⟩
        have HB2 := Lib.hid (HB1.out.trans (hb2.mono HB1.out.size))
        have HBW2 : Hid (Below w.heap.size w w2) := HBW1.out.trans (hb2.mono HBW1.out.size)
        clear hb2 a0 a1 a2 a3 a4
        go_wp2_with (fail)
        refine (HSR.out _ x _ _ _ HBW2.out (HXL.out _ HBW2.out) (HF.out _ HB2.out).1 (HF.out _ HB2.out).2.1 (HF.out _ HB2.out).2.2.2.2).mono ?_
        rintro e w3 ⟨rfl, hb3⟩
        have HB3 := Lib.hid (HB2.out.trans (hb3.mono HB2.out.size))
        have HBW3 : Hid (Below w.heap.size w w3) := HBW2.out.trans (hb3.mono HBW2.out.size)
        clear hb3
        have e1 : (seesE l acts who x != seesE l acts who x) = false := bne_self_eq_false _
        have e2 : (seesB l acts who x != seesB l acts who x) = false := bne_self_eq_false _
        go_wp2_with (fail)
        refine (viewed_calls _).mono ?_
        rintro e w4 ⟨rfl, hb4⟩
        have HB4 := Lib.hid (HB3.out.trans (hb4.mono HB3.out.size))
        have HBW4 : Hid (Below w.heap.size w w4) := HBW3.out.trans (hb4.mono HBW3.out.size)
        obtain ⟨a0, a1, a2, a3, a4⟩ := HF.out _ HB4.out
        clear hb4 a0 a1 a3 a4
        go_wp2
        go_loopw [87] (fun i ws => ∃ (k : Nat) (wo : World), k ≤ ch.length ∧ i = .int .i64 k ∧ wo = ws ∧ Hid (Below w4.heap.size w4 wo) ∧ Hid (∀ j, j < k → stopA l acts who ch a b j = false)) (fun i _ => ch.length - (intOf i).toNat)
        case atStart => exact ⟨0, _, Nat.zero_le _, rfl, rfl, Below.refl _ _, fun j hj => absurd hj (Nat.not_lt_zero _)⟩
        case round =>
          clear a2 t1 t2 t3 e1 e2
          obtain ⟨k, wo, hk, rfl, rfl, HB, HN⟩ := hrel
          have HB0 : Hid (Below W0.heap.size W0 wo) := HB4.out.trans (HB.out.mono HB4.out.size)
          have HBW : Hid (Below w.heap.size w wo) := HW0.out.trans (HB0.out.mono HW0.out.size)
          by_cases hlt : k < ch.length
          · obtain ⟨ul, g1, g2, g3, g4, g5, hul⟩ := HC2.out k hlt
            obtain ⟨_, _, kl, pl, rfl, _⟩ := hul.cells
            have hcell1 : wo.cell? ⟨b2, o2 + k * 5, none⟩ = some (.int .i64 ch[k].1) := (HBW.out.cell (cell_lt g1)).trans g1
            have hcell2 : wo.cell? ⟨b2, o2 + k * 5 + 1, none⟩ = some (.string ch[k].2.1) := (HBW.out.cell (cell_lt g2)).trans g2
            have hcell3 : wo.cell? ⟨b2, o2 + k * 5 + 2, none⟩ = some (.bool ch[k].2.2.1) := (HBW.out.cell (cell_lt g3)).trans g3
            have hcell4 : wo.cell? ⟨b2, o2 + k * 5 + 3, none⟩ = some (.int .i64 ch[k].2.2.2.1) := (HBW.out.cell (cell_lt g4)).trans g4
            have hcell5 : wo.cell? ⟨b2, o2 + k * 5 + 4, none⟩ = some (.slice pl ch[k].2.2.2.2.length kl) := (HBW.out.cell (cell_lt g5)).trans g5
            obtain rfl := HP2.out (by omega)
            have hka : k < a.length := by have := H1.out; omega
            have hkb : k < b.length := by have := H2.out; omega
            obtain ⟨ua, f1, hua⟩ := HC3.out k hka
            obtain ⟨ub, f2, hub⟩ := HC5.out k hkb
            obtain rfl := HP3.out (by omega)
            obtain rfl := HP5.out (by omega)
            obtain ⟨_, _, ka, pa, rfl, _⟩ := One.cells hua
            obtain ⟨_, _, kb, pb, rfl, _⟩ := One.cells hub
            obtain ⟨W1, eW1⟩ : ∃ W1, wo.alloc (.cells #[.int .i64 ch[k].1, .string ch[k].2.1, .bool ch[k].2.2.1, .int .i64 ch[k].2.2.2.1, .slice pl ch[k].2.2.2.2.length kl] 68) = W1 := ⟨_, rfl⟩
            obtain ⟨z1, hW1, m1⟩ := boxes1 eW1
            have r5 := m1 4
            simp only [List.getElem?_toArray, List.getElem?_cons_zero, List.getElem?_cons_succ] at r5
            have HB1' : Hid (Below w4.heap.size w4 W1) := HB.out.trans (hW1.mono HB.out.size)
            have HB01 : Hid (Below W0.heap.size W0 W1) := HB0.out.trans (hW1.mono HB0.out.size)
            have HBW1' : Hid (Below w.heap.size w W1) := HBW.out.trans (hW1.mono HBW.out.size)
            have HS := Lib.hid (HSR.out W1 ch[k].2.2.2.2 _ _ _ HBW1'.out (hul.stays (keeps_of_below HBW1'.out)) (HF.out _ HB01.out).1 (HF.out _ HB01.out).2.1 (HF.out _ HB01.out).2.2.2.2)
            have HFA : Hid (∀ W, Below w.heap.size w W → W.cell? ⟨b3, o3 + k, none⟩ = some (.slice pa a[k].length ka) ∧ Nums W a[k] (.slice pa a[k].length ka)) := fun W h => ⟨(h.cell (cell_lt f1)).trans f1, hua.stays (keeps_of_below h)⟩
            have HFB : Hid (∀ W, Below w.heap.size w W → W.cell? ⟨b5, o5 + k, none⟩ = some (.slice pb b[k].length kb) ∧ Nums W b[k] (.slice pb b[k].length kb)) := fun W h => ⟨(h.cell (cell_lt f2)).trans f2, hub.stays (keeps_of_below h)⟩
            have hka' : (k : Int) < (a.length : Int) := by omega
            have hkb' : (k : Int) < (b.length : Int) := by omega
            clear g1 g2 g3 g4 g5 hul m1 hW1 z1 f1 f2 hua hub
            by_cases he : seesE l acts who ch[k].2.2.2.2 = 0
            · have HE := Lib.hid he
              cases hs : seesB l acts who ch[k].2.2.2.2 with
              | false =>
                have HSB := Lib.hid hs
                have HST := Lib.hid (alike_on hlt hka hkb he (.inl hs))
                clear he hs
                go_wp2_with (fail)
                refine HS.out.mono ?_
                rintro e w5 ⟨rfl, hb5⟩
                rw [HE.out, HSB.out]
                have HB5 := Lib.hid (HB1'.out.trans (hb5.mono HB1'.out.size))
                clear hb5 hcell1 hcell2 hcell3 hcell4 hcell5 r5
                go_wp2
                go_quiet (fail)
                go_wp2
                go_roundw
                case rel =>
                  refine ⟨k + 1, _, by omega, by go_num, rfl, below_drewN HB5.out nq, fun j hj => ?_⟩
                  by_cases e : j = k
                  · subst e; exact HST.out
                  · exact HN.out j (by omega)
                case measure => simp [intOf]; omega
              | true =>
                have HSB := Lib.hid hs
                cases hq : (a[k] == b[k]) with
                | true =>
                  have HST := Lib.hid (alike_on (l := l) (acts := acts) (who := who) hlt hka hkb he (.inr hq))
                  have HQ := Lib.hid hq
                  clear he hs hq
                  go_wp2_with (fail)
                  refine HS.out.mono ?_
                  rintro e w5 ⟨rfl, hb5⟩
                  rw [HE.out, HSB.out]
                  have HB5 := Lib.hid (HB1'.out.trans (hb5.mono HB1'.out.size))
                  have HBW5 : Hid (Below w.heap.size w w5) := HBW1'.out.trans (hb5.mono HBW1'.out.size)
                  have ha5 := (HFA.out _ HBW5.out).1
                  have hb5' := (HFB.out _ HBW5.out).1
                  have HEQ : Hid (∀ n, Calls Tryd.prog 34 #[.slice pa a[k].length ka, .slice pb b[k].length kb] (w5.drewN n) fun e w'' => e = .returned (.bool true) ∧ ∃ m, w'' = (w5.drewN n).drewN m) := fun n => by
                    have := equalI_calls a[k] b[k] _ _ (w5.drewN n) (HFA.out _ (below_drewN HBW5.out n)).2 (HFB.out _ (below_drewN HBW5.out n)).2
                    rw [HQ.out] at this
                    exact this
                  clear hb5 hcell1 hcell2 hcell3 hcell4 hcell5 r5
                  go_wp2
                  go_quiet ((go_at_call 34; exact Calls.quiet_of (HEQ.out _)))
                  go_wp2
                  go_roundw
                  case rel =>
                    refine ⟨k + 1, _, by omega, by go_num, rfl, below_drewN HB5.out nq, fun j hj => ?_⟩
                    by_cases e : j = k
                    · subst e; exact HST.out
                    · exact HN.out j (by omega)
                  case measure => simp [intOf]; omega
                | false =>
                  have HX := Lib.hid (alike_ne HBD.out hlt hka hkb he hs hq HN.out)
                  have HQ := Lib.hid hq
                  have hqq : (alikeE2 l acts who ch a b == 0) = true := by rw [HX.out.1]; rfl
                  clear he hs hq
                  go_wp2_with (fail)
                  refine HS.out.mono ?_
                  rintro e w5 ⟨rfl, hb5⟩
                  rw [HE.out, HSB.out]
                  have HBW5 : Hid (Below w.heap.size w w5) := HBW1'.out.trans (hb5.mono HBW1'.out.size)
                  have ha5 := (HFA.out _ HBW5.out).1
                  have hb5' := (HFB.out _ HBW5.out).1
                  have HEQ : Hid (∀ n, Calls Tryd.prog 34 #[.slice pa a[k].length ka, .slice pb b[k].length kb] (w5.drewN n) fun e w'' => e = .returned (.bool false) ∧ ∃ m, w'' = (w5.drewN n).drewN m) := fun n => by
                    have := equalI_calls a[k] b[k] _ _ (w5.drewN n) (HFA.out _ (below_drewN HBW5.out n)).2 (HFB.out _ (below_drewN HBW5.out n)).2
                    rw [HQ.out] at this
                    exact this
                  clear hb5 hcell1 hcell2 hcell3 hcell4 hcell5 r5
                  go_wp2
                  go_quiet ((go_at_call 34; exact Calls.quiet_of (HEQ.out _)))
                  go_wp2
                  go_ret
                  exact ⟨by rw [HX.out.2]; rfl, below_drewN HBW5.out nq⟩
            · have HX := Lib.hid (alike_err HBD.out hlt he HN.out)
              have hq1 : (seesE l acts who ch[k].2.2.2.2 != 0) = true := by simpa using he
              have hq2 : (seesE l acts who ch[k].2.2.2.2 == 0) = false := by simpa using he
              have hqq : (alikeE2 l acts who ch a b == seesE l acts who ch[k].2.2.2.2) = true := by rw [HX.out.1]; exact beq_self_eq_true _
              clear he
              go_wp2_with (fail)
              refine HS.out.mono ?_
              rintro e w5 ⟨rfl, hb5⟩
              have HBW5 : Hid (Below w.heap.size w w5) := HBW1'.out.trans (hb5.mono HBW1'.out.size)
              clear hb5 hcell1 hcell2 hcell3 hcell4 hcell5 r5
              go_wp2
              go_ret
              exact ⟨by rw [HX.out.2]; rfl, HBW5.out⟩
          · have HX := Lib.hid (alike_yes HBD.out fun j hj => HN.out j (by omega))
            have hqq : (alikeE2 l acts who ch a b == 0) = true := by rw [HX.out.1]; rfl
            go_wp2
            go_ret
            exact ⟨by rw [HX.out.2]; rfl, HBW.out⟩
    · have t2 : ((b.length : Int) != (ch.length : Int)) = true := by rw [bne_iff_ne]; omega
      have HX := Lib.hid (alike_bad (l := l) (acts := acts) (who := who) (ch := ch) (a := a) (b := b) (by unfold badA; simp [h2]))
      clear h1 h2
      have hq : (alikeE2 l acts who ch a b == 4) = true := by rw [HX.out.1]; rfl
      go_enter Tryd.func6, Tryd.ntmps6
      go_wp2_with (fail)
      refine (HSE.out _ HW0.out).mono ?_
      rintro e w1 ⟨rfl, hb1⟩
      have HB1 := Lib.hid hb1
      have HBW1 : Hid (Below w.heap.size w w1) := HW0.out.trans (hb1.mono HW0.out.size)
      obtain ⟨a0, a1, a2, a3, a4⟩ := HF.out _ hb1
      clear hb1 j0 j1 j2 j3 j4
      go_wp2_with (fail)
      refine (HAL.out _ HBW1.out).mono ?_
      rintro e w2 ⟨rfl, hb2⟩
      have HB2 := Lib.hid (HB1.out.trans (hb2.mono HB1.out.size))
      have HBW2 : Hid (Below w.heap.size w w2) := HBW1.out.trans (hb2.mono HBW1.out.size)
      clear hb2 a0 a1 a2 a3 a4
      go_wp2_with (fail)
      refine (HSR.out _ x _ _ _ HBW2.out (HXL.out _ HBW2.out) (HF.out _ HB2.out).1 (HF.out _ HB2.out).2.1 (HF.out _ HB2.out).2.2.2.2).mono ?_
      rintro e w3 ⟨rfl, hb3⟩
      have HB3 := Lib.hid (HB2.out.trans (hb3.mono HB2.out.size))
      have HBW3 : Hid (Below w.heap.size w w3) := HBW2.out.trans (hb3.mono HBW2.out.size)
      clear hb3
      have e1 : (seesE l acts who x != seesE l acts who x) = false := bne_self_eq_false _
      have e2 : (seesB l acts who x != seesB l acts who x) = false := bne_self_eq_false _
      go_wp2_with (fail)
      refine (viewed_calls _).mono ?_
      rintro e w4 ⟨rfl, hb4⟩
      have HB4 := Lib.hid (HB3.out.trans (hb4.mono HB3.out.size))
      have HBW4 : Hid (Below w.heap.size w w4) := HBW3.out.trans (hb4.mono HBW3.out.size)
      obtain ⟨a0, a1, a2, a3, a4⟩ := HF.out _ HB4.out
      clear hb4 a0 a1 a3 a4
      go_wp2
      go_ret
      exact ⟨by rw [HX.out.2]; rfl, HBW4.out⟩
  · have t1 : ((a.length : Int) != (ch.length : Int)) = true := by rw [bne_iff_ne]; omega
    have HX := Lib.hid (alike_bad (l := l) (acts := acts) (who := who) (ch := ch) (a := a) (b := b) (by unfold badA; simp [h1]))
    clear h1
    have hq : (alikeE2 l acts who ch a b == 4) = true := by rw [HX.out.1]; rfl
    go_enter Tryd.func6, Tryd.ntmps6
    go_wp2_with (fail)
    refine (HSE.out _ HW0.out).mono ?_
    rintro e w1 ⟨rfl, hb1⟩
    have HB1 := Lib.hid hb1
    have HBW1 : Hid (Below w.heap.size w w1) := HW0.out.trans (hb1.mono HW0.out.size)
    obtain ⟨a0, a1, a2, a3, a4⟩ := HF.out _ hb1
    clear hb1 j0 j1 j2 j3 j4
    go_wp2_with (fail)
    refine (HAL.out _ HBW1.out).mono ?_
    rintro e w2 ⟨rfl, hb2⟩
    have HB2 := Lib.hid (HB1.out.trans (hb2.mono HB1.out.size))
    have HBW2 : Hid (Below w.heap.size w w2) := HBW1.out.trans (hb2.mono HBW1.out.size)
    clear hb2 a0 a1 a2 a3 a4
    go_wp2_with (fail)
    refine (HSR.out _ x _ _ _ HBW2.out (HXL.out _ HBW2.out) (HF.out _ HB2.out).1 (HF.out _ HB2.out).2.1 (HF.out _ HB2.out).2.2.2.2).mono ?_
    rintro e w3 ⟨rfl, hb3⟩
    have HB3 := Lib.hid (HB2.out.trans (hb3.mono HB2.out.size))
    have HBW3 : Hid (Below w.heap.size w w3) := HBW2.out.trans (hb3.mono HBW2.out.size)
    clear hb3
    have e1 : (seesE l acts who x != seesE l acts who x) = false := bne_self_eq_false _
    have e2 : (seesB l acts who x != seesB l acts who x) = false := bne_self_eq_false _
    go_wp2_with (fail)
    refine (viewed_calls _).mono ?_
    rintro e w4 ⟨rfl, hb4⟩
    have HB4 := Lib.hid (HB3.out.trans (hb4.mono HB3.out.size))
    have HBW4 : Hid (Below w.heap.size w w4) := HBW3.out.trans (hb4.mono HBW3.out.size)
    obtain ⟨a0, a1, a2, a3, a4⟩ := HF.out _ HB4.out
    clear hb4 a0 a1 a3 a4
    go_wp2
    go_ret
    exact ⟨by rw [HX.out.2]; rfl, HBW4.out⟩
end Go.Proofs.YtfbieagkhbmgjaaDoor
