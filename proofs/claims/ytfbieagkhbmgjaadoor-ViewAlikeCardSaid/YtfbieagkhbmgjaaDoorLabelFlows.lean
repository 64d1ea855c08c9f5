/-
  cloisterlaw.LabelFlows: the call returns true.
-/
import Derived.Test.YtfbieagkhbmgjaaDoorLabF
import Derived.Test.YtfbieagkhbmgjaaDoorLabelled
namespace Go.Proofs.YtfbieagkhbmgjaaDoor
open Go.RowKit Go.Maps
set_option linter.unusedVariables false
set_option linter.unusedSimpArgs false

theorem lbls_one (W : World) (a : Lab) (v : Value) (h : Lbl W a v) : LblsF (W.alloc (.cells #[v] 50)) [a] (.slice (some ⟨W.heap.size, 0, none⟩) 1 1) := by
  refine ⟨_, _, rfl, Nat.le_refl _, by unfold maxLen; decide, Or.inr ⟨_, 0, rfl, fun i hi => ?_⟩⟩
  match i, hi with
  | 0, _ =>
    refine ⟨[v], ⟨v, rfl, h.stays (keeps_of_below ((Below.refl _ _).alloc (Nat.le_refl _) _))⟩, rfl, fun j x hx => ?_⟩
    match j, hx with
    | 0, hx => simp at hx; subst hx; exact alloc_cell_new _ _ _ _ _ rfl
theorem lbls_two (W : World) (a b : Lab) (v u : Value) (h : Lbl W a v) (k : Lbl W b u) : LblsF (W.alloc (.cells #[v, u] 50)) [a, b] (.slice (some ⟨W.heap.size, 0, none⟩) 2 2) := by
  have hk := keeps_of_below ((Below.refl W.heap.size W).alloc (Nat.le_refl _) (.cells #[v, u] 50))
  refine ⟨_, _, rfl, Nat.le_refl _, by unfold maxLen; decide, Or.inr ⟨_, 0, rfl, fun i hi => ?_⟩⟩
  match i, hi with
  | 0, _ =>
    refine ⟨[v], ⟨v, rfl, h.stays hk⟩, rfl, fun j x hx => ?_⟩
    match j, hx with
    | 0, hx => simp at hx; subst hx; exact alloc_cell_new _ _ _ _ _ rfl
  | 1, _ =>
    refine ⟨[u], ⟨u, rfl, k.stays hk⟩, rfl, fun j x hx => ?_⟩
    match j, hx with
    | 0, hx => simp at hx; subst hx; exact alloc_cell_new _ _ _ _ _ rfl

set_option maxHeartbeats 2000000 in
set_option maxRecDepth 100000 in
theorem labelFlows_calls (l : List Txt) (acts : List (Txt × Txt)) (a b : Lab) (v u va vb : Value) (mx : Int) (w : World) (hv : Strs w l v) (hu : Prs w acts u) (ha : Lbl w a va) (hb : Lbl w b vb) (hl : okList okTxt l) (ho : okList (okBoth okTxt okTxt) acts) (hao : okLab a) (hbo : okLab b) (hm : w.cell? ⟨0, 0, none⟩ = some (.int .i64 mx)) :
    Calls Tryd.prog 7 #[v, u, va, vb] w fun e w' => e = .returned (.bool true) ∧ Below w.heap.size w w' := by
  have hv0 := hv
  have hu0 := hu
  have ha0 := ha
  have hb0 := hb
  obtain ⟨b0, o0, c0, p0, rfl, _⟩ := hv.cells
  obtain ⟨b1, o1, c1, p1, rfl, _⟩ := hu.cells
  obtain ⟨b2, o2, c2, p2, rfl, _⟩ := ha.cells
  obtain ⟨b3, o3, c3, p3, rfl, _⟩ := hb.cells
  have HV : Hid (∀ W, Below w.heap.size w W → Strs W l (.slice p0 l.length c0)) := fun W h => hv0.stays (keeps_of_below h)
  have HU : Hid (∀ W, Below w.heap.size w W → Prs W acts (.slice p1 acts.length c1)) := fun W h => hu0.stays (keeps_of_below h)
  have HA : Hid (∀ W, Below w.heap.size w W → Lbl W a (.slice p2 a.length c2)) := fun W h => ha0.stays (keeps_of_below h)
  have HBB : Hid (∀ W, Below w.heap.size w W → Lbl W b (.slice p3 b.length c3)) := fun W h => hb0.stays (keeps_of_below h)
  have HFL : Hid (Calls Tryd.prog 35 #[.slice p0 l.length c0, .slice p1 acts.length c1, .slice p2 a.length c2, .slice p3 b.length c3] w fun e w' => e = .returned (.tuple #[.bool (flowsR l acts a b), .int .i64 (flowsE l acts a b)]) ∧ Below w.heap.size w w') :=
    flows_calls l acts a b _ _ _ _ w hv0 hu0 ha0 hb0 hl hao hbo
  have HRD : Hid (∀ W, Below w.heap.size w W → Calls Tryd.prog 36 #[.slice p0 l.length c0, .slice p1 acts.length c1, .slice p2 a.length c2] W fun e w' => ∃ y, e = .returned (.tuple #[y, .int .i64 (labE l acts a)]) ∧ Strs w' (readsR l acts a) y ∧ Below W.heap.size W w') := fun W h =>
    reads_calls l acts a _ _ _ W (HV.out W h) (HU.out W h) (HA.out W h) hl hao
  have HB1L : Hid (∀ W, Below w.heap.size w W → Calls Tryd.prog 33 #[.slice p0 l.length c0, .slice p1 acts.length c1, .slice (some ⟨W.heap.size, 0, none⟩) 1 1] (W.alloc (.cells #[.slice p2 a.length c2] 50)) fun e w' => e = .returned (.int .i64 (labE l acts a)) ∧ Below W.heap.size W w') := fun W h => by
    have hz : Below W.heap.size W (W.alloc (.cells #[.slice p2 a.length c2] 50)) := (Below.refl _ _).alloc (Nat.le_refl _) _
    have hz2 := h.trans (hz.mono h.size)
    have := badLabels_calls l acts [a] _ _ _ mx _ (HV.out _ hz2) (HU.out _ hz2) (lbls_one W a _ (HA.out W h)) hl ho ((hz2.cell (cell_lt hm)).trans hm) (by simp)
    rw [badL_one] at this
    exact this.mono fun e w' hh => ⟨hh.1, hz.trans (hh.2.mono hz.size)⟩
  have HB2L : Hid (∀ W, Below w.heap.size w W → Calls Tryd.prog 33 #[.slice p0 l.length c0, .slice p1 acts.length c1, .slice (some ⟨W.heap.size, 0, none⟩) 2 2] (W.alloc (.cells #[.slice p2 a.length c2, .slice p3 b.length c3] 50)) fun e w' => e = .returned (.int .i64 (flowsE l acts a b)) ∧ Below W.heap.size W w') := fun W h => by
    have hz : Below W.heap.size W (W.alloc (.cells #[.slice p2 a.length c2, .slice p3 b.length c3] 50)) := (Below.refl _ _).alloc (Nat.le_refl _) _
    have hz2 := h.trans (hz.mono h.size)
    have := badLabels_calls l acts [a, b] _ _ _ mx _ (HV.out _ hz2) (HU.out _ hz2) (lbls_two W a b _ _ (HA.out W h) (HBB.out W h)) hl ho ((hz2.cell (cell_lt hm)).trans hm) (by simp)
    rw [badL_two] at this
    exact this.mono fun e w' hh => ⟨hh.1, hz.trans (hh.2.mono hz.size)⟩
  have HCH : Hid (∀ W, Below w.heap.size w W → Calls Tryd.prog 38 #[.slice p0 l.length c0, .slice p1 acts.length c1, .slice p2 a.length c2] W fun e w' => e = .returned (.int .i64 (labE l acts a)) ∧ Below W.heap.size W w') := fun W h =>
    labCheck_calls l acts a _ _ _ W (HV.out W h) (HU.out W h) (HA.out W h)
  clear hv hu ha hb hv0 hu0 ha0 hb0 hm hl ho hao hbo
  by_cases h0 : labE l acts a = 0
  · have hc := (labE_check h0).1
    have hr : labErr l a = 0 := (labE_check h0).2
    obtain ⟨z1, z2, _, _⟩ := checkC_zero hc
    have HRA : Hid (readsR l acts a = readsL (actsF acts) l a) := by
      unfold Hid readsR
      rw [if_pos h0]
      exact reads_acts hc (right_of h0)
    have HRO : Hid (∀ W, Below w.heap.size w W → Calls Tryd.prog 29 #[.slice p0 l.length c0, .slice p1 acts.length c1, .slice p2 a.length c2] W fun e w' => ∃ y, e = .returned y ∧ Strs w' (readsL (actsF acts) l a) y ∧ Below W.heap.size W w') := fun W h =>
      refReaders_calls l acts a _ _ _ W (HV.out W h) (HU.out W h) (HA.out W h) z2 z1 (fun p hp => ((labErr_zero hr).2 p hp).1)
    have HLE := Lib.hid h0
    have HRR := HRA
    by_cases h1 : flowsE l acts a b = 0
    · obtain ⟨h2, h3⟩ := flowsE_zero h1
      have HFE := Lib.hid h1
      have HFR : Hid (flowsR l acts a b = flowsB (actsF acts) a b) := by
        unfold Hid flowsR
        rw [h1]
        exact flows_acts hc (right_of h0) (right_of h3)
      have HMG : Hid (∀ W, Below w.heap.size w W → Calls Tryd.prog 39 #[.slice p1 acts.length c1, .slice p2 a.length c2, .slice p3 b.length c3] W fun e w' => e = .returned (.bool (flowsB (actsF acts) a b)) ∧ Below W.heap.size W w') := fun W h =>
        refMay_calls acts a b _ _ _ W (HU.out W h) (HA.out W h) (HBB.out W h) z2 (fun p hp => ((labErr_zero hr).2 p hp).1)
      clear h0 hc hr z1 z2 h1 h2 h3
      go_enter Tryd.func7, Tryd.ntmps7
      go_wp2_with (fail)
      refine HFL.out.mono ?_
      rintro e w1 ⟨rfl, hb1⟩
      rw [HFE.out, HFR.out]
      have HB1 := Lib.hid hb1
      clear hb1
      go_wp2_with (fail)
      refine (HRD.out _ HB1.out).mono ?_
      rintro e w2 ⟨y, rfl, hy, hb2⟩
      rw [HRR.out] at hy
      rw [HLE.out]
      have HY := Lib.hid hy
      obtain ⟨by_, oy, cy, py, rfl, _⟩ := hy.cells
      have HB2 := Lib.hid (HB1.out.trans (hb2.mono HB1.out.size))
      clear hy hb2
      go_wp2_with (fail)
      refine (HB1L.out _ HB2.out).mono ?_
      rintro e w3 ⟨rfl, hb3⟩
      rw [HLE.out]
      have HB3 := Lib.hid (HB2.out.trans (hb3.mono HB2.out.size))
      have HY3 := Lib.hid (HY.out.stays (keeps_of_below hb3))
      clear hb3
      go_wp2_with (fail)
      refine (HB2L.out _ HB3.out).mono ?_
      rintro e w4 ⟨rfl, hb4⟩
      rw [HFE.out]
      have HB4 := Lib.hid (HB3.out.trans (hb4.mono HB3.out.size))
      have HY4 := Lib.hid (HY3.out.stays (keeps_of_below hb4))
      clear hb4
      go_wp2_with (fail)
      refine (labelled_calls _).mono ?_
      rintro e w5 ⟨rfl, hb5⟩
      have HB5 := Lib.hid (HB4.out.trans (hb5.mono HB4.out.size))
      have HY5 := Lib.hid (HY4.out.stays (keeps_of_below hb5))
      clear hb5
      go_wp2_with (fail)
      refine (HCH.out _ HB5.out).mono ?_
      rintro e w6 ⟨rfl, hb6⟩
      rw [HLE.out]
      have HB6 := Lib.hid (HB5.out.trans (hb6.mono HB5.out.size))
      have HY6 := Lib.hid (HY5.out.stays (keeps_of_below hb6))
      clear hb6
      go_wp2_with (fail)
      refine (HRO.out _ HB6.out).mono ?_
      rintro e w7 ⟨z, rfl, hz, hb7⟩
      have HZ := Lib.hid hz
      obtain ⟨bz, oz, cz, pz, rfl, _⟩ := hz.cells
      have HB7 := Lib.hid (HB6.out.trans (hb7.mono HB6.out.size))
      have HY7 := Lib.hid (HY6.out.stays (keeps_of_below hb7))
      clear hz hb7
      have HEQ := Lib.hid (equalS_calls _ _ _ _ _ HY7.out HZ.out)
      go_wp2_with (fail)
      refine HEQ.out.mono ?_
      rintro e w8 ⟨rfl, n8, rfl⟩
      have e8 : (readsL (actsF acts) l a == readsL (actsF acts) l a) = true := by rw [beq_iff_eq]
      rw [e8]
      have HB8 : Hid (Below w.heap.size w (w7.drewN n8)) := below_drewN HB7.out n8
      clear e8
      go_wp2_with (fail)
      refine (HMG.out _ HB8.out).mono ?_
      rintro e w9 ⟨rfl, hb9⟩
      have HB9 := Lib.hid (HB8.out.trans (hb9.mono HB8.out.size))
      clear hb9
      cases flowsB (actsF acts) a b
      all_goals go_wp2
      all_goals go_ret
      all_goals exact ⟨rfl, HB9.out⟩
    · have hq : (flowsE l acts a b != 0) = true := by simpa using h1
      have hq2 : (flowsE l acts a b == 0) = false := by simpa using h1
      have HFR : Hid (flowsR l acts a b = false) := by
        unfold Hid flowsR
        rw [hq2]
        rfl
      clear h0 hc hr z1 z2 h1
      go_enter Tryd.func7, Tryd.ntmps7
      go_wp2_with (fail)
      refine HFL.out.mono ?_
      rintro e w1 ⟨rfl, hb1⟩
      rw [HFR.out]
      have HB1 := Lib.hid hb1
      clear hb1
      go_wp2_with (fail)
      refine (HRD.out _ HB1.out).mono ?_
      rintro e w2 ⟨y, rfl, hy, hb2⟩
      rw [HRR.out] at hy
      rw [HLE.out]
      have HY := Lib.hid hy
      obtain ⟨by_, oy, cy, py, rfl, _⟩ := hy.cells
      have HB2 := Lib.hid (HB1.out.trans (hb2.mono HB1.out.size))
      clear hy hb2
      go_wp2_with (fail)
      refine (HB1L.out _ HB2.out).mono ?_
      rintro e w3 ⟨rfl, hb3⟩
      rw [HLE.out]
      have HB3 := Lib.hid (HB2.out.trans (hb3.mono HB2.out.size))
      have HY3 := Lib.hid (HY.out.stays (keeps_of_below hb3))
      clear hb3
      go_wp2_with (fail)
      refine (HB2L.out _ HB3.out).mono ?_
      rintro e w4 ⟨rfl, hb4⟩
      have HB4 := Lib.hid (HB3.out.trans (hb4.mono HB3.out.size))
      have HY4 := Lib.hid (HY3.out.stays (keeps_of_below hb4))
      clear hb4
      go_wp2_with (fail)
      refine (labelled_calls _).mono ?_
      rintro e w5 ⟨rfl, hb5⟩
      have HB5 := Lib.hid (HB4.out.trans (hb5.mono HB4.out.size))
      have HY5 := Lib.hid (HY4.out.stays (keeps_of_below hb5))
      clear hb5
      go_wp2_with (fail)
      refine (HCH.out _ HB5.out).mono ?_
      rintro e w6 ⟨rfl, hb6⟩
      rw [HLE.out]
      have HB6 := Lib.hid (HB5.out.trans (hb6.mono HB5.out.size))
      have HY6 := Lib.hid (HY5.out.stays (keeps_of_below hb6))
      clear hb6
      go_wp2_with (fail)
      refine (HRO.out _ HB6.out).mono ?_
      rintro e w7 ⟨z, rfl, hz, hb7⟩
      have HZ := Lib.hid hz
      obtain ⟨bz, oz, cz, pz, rfl, _⟩ := hz.cells
      have HB7 := Lib.hid (HB6.out.trans (hb7.mono HB6.out.size))
      have HY7 := Lib.hid (HY6.out.stays (keeps_of_below hb7))
      clear hz hb7
      have HEQ := Lib.hid (equalS_calls _ _ _ _ _ HY7.out HZ.out)
      go_wp2_with (fail)
      refine HEQ.out.mono ?_
      rintro e w8 ⟨rfl, n8, rfl⟩
      have e8 : (readsL (actsF acts) l a == readsL (actsF acts) l a) = true := by rw [beq_iff_eq]
      rw [e8]
      have HB8 : Hid (Below w.heap.size w (w7.drewN n8)) := below_drewN HB7.out n8
      clear e8
      go_wp2
      go_ret
      exact ⟨rfl, HB8.out⟩
  · have HFE : Hid (flowsE l acts a b = labE l acts a) := by unfold Hid flowsE; rw [if_pos h0]
    have HFR : Hid (flowsR l acts a b = false) := by
      unfold Hid flowsR
      rw [HFE.out, show (labE l acts a == 0) = false by simpa using h0]
      rfl
    have HRR : Hid (readsR l acts a = []) := by unfold Hid readsR; rw [if_neg h0]
    have hq : (labE l acts a != 0) = true := by simpa using h0
    have hq2 : (labE l acts a == 0) = false := by simpa using h0
    clear h0
    go_enter Tryd.func7, Tryd.ntmps7
    go_wp2_with (fail)
    refine HFL.out.mono ?_
    rintro e w1 ⟨rfl, hb1⟩
    rw [HFE.out, HFR.out]
    have HB1 := Lib.hid hb1
    clear hb1
    go_wp2_with (fail)
    refine (HRD.out _ HB1.out).mono ?_
    rintro e w2 ⟨y, rfl, hy, hb2⟩
    rw [HRR.out] at hy
    have HY := Lib.hid hy
    obtain ⟨by_, oy, cy, py, rfl, _⟩ := hy.cells
    have HB2 := Lib.hid (HB1.out.trans (hb2.mono HB1.out.size))
    clear hy hb2
    go_wp2_with (fail)
    refine (HB1L.out _ HB2.out).mono ?_
    rintro e w3 ⟨rfl, hb3⟩
    have HB3 := Lib.hid (HB2.out.trans (hb3.mono HB2.out.size))
    have HY3 := Lib.hid (HY.out.stays (keeps_of_below hb3))
    clear hb3
    go_wp2_with (fail)
    refine (HB2L.out _ HB3.out).mono ?_
    rintro e w4 ⟨rfl, hb4⟩
    rw [HFE.out]
    have HB4 := Lib.hid (HB3.out.trans (hb4.mono HB3.out.size))
    have HY4 := Lib.hid (HY3.out.stays (keeps_of_below hb4))
    clear hb4
    go_wp2_with (fail)
    refine (labelled_calls _).mono ?_
    rintro e w5 ⟨rfl, hb5⟩
    have HB5 := Lib.hid (HB4.out.trans (hb5.mono HB4.out.size))
    have HY5 := Lib.hid (HY4.out.stays (keeps_of_below hb5))
    clear hb5
    go_wp2_with (fail)
    refine (HCH.out _ HB5.out).mono ?_
    rintro e w6 ⟨rfl, hb6⟩
    have HB6 := Lib.hid (HB5.out.trans (hb6.mono HB5.out.size))
    have HY6 := Lib.hid (HY5.out.stays (keeps_of_below hb6))
    clear hb6
    go_wp2
    go_ret
    exact ⟨rfl, HB6.out⟩
end Go.Proofs.YtfbieagkhbmgjaaDoor
