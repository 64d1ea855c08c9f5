/-
  cloisterlaw.LabelJoin: the call returns true.
-/
import Derived.Test.YtjjlkckhbhgmoaaLessC
import Derived.Test.YtjjlkckhbhgmoaaLabelled
namespace Go.Proofs.Ytjjlkckhbhgmoaa
open Go.RowKit Go.Maps
set_option linter.unusedVariables false
set_option linter.unusedSimpArgs false

theorem joinF_calls (l : List Txt) (acts : List (Txt × Txt)) (x y : Lab) (v u vx vy : Value) (g1 g2 : Nat) (w : World) (hv : Strs w l v) (hu : Prs w acts u) (hx : Lbl w x vx) (hy : Lbl w y vy) (hl : okList okTxt l) (hxo : okLab x) (hyo : okLab y)
    (h1 : w.cell? ⟨g1, 0, none⟩ = some v) (h2 : w.cell? ⟨g2, 0, none⟩ = some u) :
    Calls Try.prog 12 #[vx, vy, .pointer (some ⟨g1, 0, none⟩), .pointer (some ⟨g2, 0, none⟩)] w fun e w' => e = .returned (.bool (flowsR l acts x y)) ∧ Below w.heap.size w w' := by
  obtain ⟨b0, o0, c0, p0, rfl, _⟩ := hv.cells
  obtain ⟨b1, o1, c1, p1, rfl, _⟩ := hu.cells
  obtain ⟨b2, o2, c2, p2, rfl, _⟩ := hx.cells
  obtain ⟨b3, o3, c3, p3, rfl, _⟩ := hy.cells
  by_cases he : flowsE l acts x y = 0
  · go_enter Try.func12, Try.ntmps12
    go_wp2_with (fail)
    refine (flows_calls l acts x y _ _ _ _ _ hv hu hx hy hl hxo hyo).mono ?_
    rintro e w1 ⟨rfl, hb⟩
    rw [he]
    go_wp2
    go_ret
    exact ⟨rfl, hb⟩
  · have hR : flowsR l acts x y = false := by unfold flowsR; simp [he]
    have hq : (flowsE l acts x y != 0) = true := by simpa using he
    have hq2 : (flowsE l acts x y == 0) = false := by simpa using he
    rw [hR]
    clear he
    go_enter Try.func12, Try.ntmps12
    go_wp2_with (fail)
    refine (flows_calls l acts x y _ _ _ _ _ hv hu hx hy hl hxo hyo).mono ?_
    rintro e w1 ⟨rfl, hb⟩
    go_wp2
    go_ret
    exact ⟨rfl, hb⟩

set_option maxHeartbeats 4000000 in
set_option maxRecDepth 100000 in
theorem labelJoin_calls (l : List Txt) (acts : List (Txt × Txt)) (a b c : Lab) (v u va vb vc : Value) (w : World) (hv : Strs w l v) (hu : Prs w acts u) (ha : Lbl w a va) (hb : Lbl w b vb) (hc : Lbl w c vc) (hl : okList okTxt l) (hao : okLab a) (hbo : okLab b) (hco : okLab c) :
    Calls Try.prog 4 #[v, u, va, vb, vc] w fun e w' => e = .returned (.bool true) ∧ Below w.heap.size w w' := by
  obtain ⟨b0, o0, c0, p0, rfl, _⟩ := hv.cells
  obtain ⟨b1, o1, c1, p1, rfl, _⟩ := hu.cells
  obtain ⟨b2, o2, c2, p2, rfl, _⟩ := ha.cells
  obtain ⟨b3, o3, c3, p3, rfl, _⟩ := hb.cells
  obtain ⟨b4, o4, c4, p4, rfl, _⟩ := hc.cells
  obtain ⟨W2, eW⟩ : ∃ W2, (w.alloc (.cells #[.slice p0 l.length c0] 22)).alloc (.cells #[.slice p1 acts.length c1] 23) = W2 := ⟨_, rfl⟩
  obtain ⟨z2, hW, m1, m2⟩ := boxes2 eW
  have h10 := m1 0
  have h20 := m2 0
  simp only [List.getElem?_toArray, List.getElem?_cons_zero] at h10 h20
  have HW := Lib.hid hW
  have H10 := Lib.hid h10
  have H20 := Lib.hid h20
  have HV := Lib.hid hv
  have HU := Lib.hid hu
  have HA := Lib.hid ha
  have HB := Lib.hid hb
  have HC := Lib.hid hc
  have HJC : Hid (∀ W, Below W2.heap.size W2 W → Calls Try.prog 10 #[.slice p0 l.length c0, .slice p1 acts.length c1, .slice p2 a.length c2, .slice p3 b.length c3] W fun e w' => ∃ y, e = .returned (.tuple #[y, .int .i64 (flowsE l acts a b)]) ∧ Lbl w' (joinR l acts a b) y ∧ Below W.heap.size W w') := fun W h =>
    have h' : Below w.heap.size w W := HW.out.trans (h.mono HW.out.size)
    join_lab_calls l acts a b _ _ _ _ W (HV.out.stays (keeps_of_below h')) (HU.out.stays (keeps_of_below h')) (HA.out.stays (keeps_of_below h')) (HB.out.stays (keeps_of_below h')) hl hao hbo
  have HNC : Hid (∀ W, Below W2.heap.size W2 W → Calls Try.prog 11 #[.slice p0 l.length c0, .slice p1 acts.length c1, .slice p2 a.length c2] W fun e w' => ∃ y, e = .returned (.tuple #[y, .int .i64 (labE l acts a)]) ∧ Lbl w' (normalR l acts a) y ∧ Below W.heap.size W w') := fun W h =>
    have h' : Below w.heap.size w W := HW.out.trans (h.mono HW.out.size)
    normal_calls l acts a _ _ _ W (HV.out.stays (keeps_of_below h')) (HU.out.stays (keeps_of_below h')) (HA.out.stays (keeps_of_below h')) hl hao
  have HFC : Hid (∀ x y vx vy W, Below W2.heap.size W2 W → Lbl W x vx → Lbl W y vy → okLab x → okLab y → Calls Try.prog 12 #[vx, vy, .pointer (some ⟨w.heap.size, 0, none⟩), .pointer (some ⟨w.heap.size + 1, 0, none⟩)] W fun e w' => e = .returned (.bool (flowsR l acts x y)) ∧ Below W.heap.size W w') := fun x y vx vy W h hx hy hxo hyo =>
    have h' : Below w.heap.size w W := HW.out.trans (h.mono HW.out.size)
    joinF_calls l acts x y _ _ vx vy w.heap.size (w.heap.size + 1) W (HV.out.stays (keeps_of_below h')) (HU.out.stays (keeps_of_below h')) hx hy hl hxo hyo ((h.cell (cell_lt H10.out)).trans H10.out) ((h.cell (cell_lt H20.out)).trans H20.out)
  have eg : ∀ args w, (callFunc 12 args).run Try.prog w = .ok (.enter 12 args) w := enters_at Try.func12 (by kernel_rfl) rfl
  clear m1 m2 hW z2 hv hu ha hb hc
  by_cases he : flowsE l acts a b = 0
  · obtain ⟨ea, eb⟩ := flowsE_zero he
    obtain ⟨f1, f2, f3, f4, f5⟩ := join_law (c := c) he
    have ejr : joinR l acts a b = joinL (mayB l acts) a b := by unfold joinR; rw [if_pos he]
    have enr : normalR l acts a = normL (mayB l acts) a := by unfold normalR; rw [if_pos ea]
    rw [ejr] at HJC
    rw [enr] at HNC
    have hjo : okLab (joinL (mayB l acts) a b) := okLab_norm (okLab_append hao hbo)
    have hno : okLab (normL (mayB l acts) a) := okLab_norm hao
    generalize joinL (mayB l acts) a b = J at *
    generalize normL (mayB l acts) a = N at *
    have HE := Lib.hid he
    have HEA := Lib.hid ea
    have F1 := Lib.hid f1
    have F2 := Lib.hid f2
    have F3 := Lib.hid f3
    have F4 := Lib.hid f4
    have HJO := Lib.hid hjo
    have HNO := Lib.hid hno
    have HAO := Lib.hid hao
    have HBO := Lib.hid hbo
    have HCO := Lib.hid hco
    have F5 : Hid ((flowsR l acts a c = true → flowsR l acts b c = true → flowsR l acts J c = true)) := f5
    clear he ea eb f1 f2 f3 f4 f5 ejr enr hjo hno hao hbo hco hl
    go_enter Try.func4, Try.ntmps4
    go_wp2_with (fail)
    refine (HJC.out W2 (Below.refl _ _)).mono ?_
    rintro e w3 ⟨y, rfl, hy, hb3⟩
    rw [HE.out]
    obtain ⟨b5, o5, c5, p5, rfl, _⟩ := hy.cells
    have HY := Lib.hid hy
    have hb23 := hb3
    have g10 : w3.cell? ⟨w.heap.size, 0, none⟩ = some (.slice p0 l.length c0) := (hb3.cell (cell_lt H10.out)).trans H10.out
    have g20 : w3.cell? ⟨w.heap.size + 1, 0, none⟩ = some (.slice p1 acts.length c1) := (hb3.cell (cell_lt H20.out)).trans H20.out
    have HB3 := Lib.hid hb3
    clear hy hb23 hb3 h10 h20
    go_wp2_with (fail)
    refine (HNC.out w3 HB3.out).mono ?_
    rintro e w4 ⟨z, rfl, hz, hb4⟩
    rw [HEA.out]
    obtain ⟨b6, o6, c6, p6, rfl, _⟩ := hz.cells
    have HZ := Lib.hid hz
    have HB4 := Lib.hid (HB3.out.trans (hb4.mono HB3.out.size))
    have HY4 := Lib.hid (HY.out.stays (keeps_of_below hb4))
    clear hz hb4 g10 g20
    go_wp2_with (fail)
    refine (labelled_calls _).mono ?_
    rintro e w5 ⟨rfl, hb5⟩
    have HB5 := Lib.hid (HB4.out.trans (hb5.mono HB4.out.size))
    have HY5 := Lib.hid (HY4.out.stays (keeps_of_below hb5))
    have HZ5 := Lib.hid (HZ.out.stays (keeps_of_below hb5))
    have KEEP : Hid (∀ W, Below W2.heap.size W2 W → Below w.heap.size w W) := fun W h => HW.out.trans (h.mono HW.out.size)
    clear hb5
    go_wp2_with (fail)
    refine (HFC.out a J _ _ w5 HB5.out (HA.out.stays (keeps_of_below (KEEP.out _ HB5.out))) HY5.out HAO.out HJO.out).mono ?_
    rintro e w6 ⟨rfl, hb6⟩
    rw [F1.out]
    have HB6 := Lib.hid (HB5.out.trans (hb6.mono HB5.out.size))
    have HY6 := Lib.hid (HY5.out.stays (keeps_of_below hb6))
    have HZ6 := Lib.hid (HZ5.out.stays (keeps_of_below hb6))
    clear hb6
    go_wp2_with (fail)
    refine (HFC.out b J _ _ w6 HB6.out (HB.out.stays (keeps_of_below (KEEP.out _ HB6.out))) HY6.out HBO.out HJO.out).mono ?_
    rintro e w7 ⟨rfl, hb7⟩
    rw [F2.out]
    have HB7 := Lib.hid (HB6.out.trans (hb7.mono HB6.out.size))
    have HY7 := Lib.hid (HY6.out.stays (keeps_of_below hb7))
    have HZ7 := Lib.hid (HZ6.out.stays (keeps_of_below hb7))
    clear hb7
    go_wp2_with (fail)
    refine (HFC.out a N _ _ w7 HB7.out (HA.out.stays (keeps_of_below (KEEP.out _ HB7.out))) HZ7.out HAO.out HNO.out).mono ?_
    rintro e w8 ⟨rfl, hb8⟩
    rw [F3.out]
    have HB8 := Lib.hid (HB7.out.trans (hb8.mono HB7.out.size))
    have HY8 := Lib.hid (HY7.out.stays (keeps_of_below hb8))
    have HZ8 := Lib.hid (HZ7.out.stays (keeps_of_below hb8))
    clear hb8
    go_wp2_with (fail)
    refine (HFC.out N a _ _ w8 HB8.out HZ8.out (HA.out.stays (keeps_of_below (KEEP.out _ HB8.out))) HNO.out HAO.out).mono ?_
    rintro e w9 ⟨rfl, hb9⟩
    rw [F4.out]
    have HB9 := Lib.hid (HB8.out.trans (hb9.mono HB8.out.size))
    have HY9 := Lib.hid (HY8.out.stays (keeps_of_below hb9))
    clear hb9
    cases h1 : flowsR l acts a c with
    | false =>
      go_wp2_with (fail)
      refine (HFC.out a c _ _ w9 HB9.out (HA.out.stays (keeps_of_below (KEEP.out _ HB9.out))) (HC.out.stays (keeps_of_below (KEEP.out _ HB9.out))) HAO.out HCO.out).mono ?_
      rintro e w10 ⟨rfl, hb10⟩
      rw [h1]
      go_wp2
      go_ret
      exact ⟨rfl, KEEP.out _ (HB9.out.trans (hb10.mono HB9.out.size))⟩
    | true =>
      cases h2 : flowsR l acts b c with
      | false =>
        have H1 := Lib.hid h1
        clear h1
        go_wp2_with (fail)
        refine (HFC.out a c _ _ w9 HB9.out (HA.out.stays (keeps_of_below (KEEP.out _ HB9.out))) (HC.out.stays (keeps_of_below (KEEP.out _ HB9.out))) HAO.out HCO.out).mono ?_
        rintro e w10 ⟨rfl, hb10⟩
        rw [H1.out]
        have HB10 := Lib.hid (HB9.out.trans (hb10.mono HB9.out.size))
        clear hb10
        go_wp2_with (fail)
        refine (HFC.out b c _ _ w10 HB10.out (HB.out.stays (keeps_of_below (KEEP.out _ HB10.out))) (HC.out.stays (keeps_of_below (KEEP.out _ HB10.out))) HBO.out HCO.out).mono ?_
        rintro e w11 ⟨rfl, hb11⟩
        rw [h2]
        go_wp2
        go_ret
        exact ⟨rfl, KEEP.out _ (HB10.out.trans (hb11.mono HB10.out.size))⟩
      | true =>
        have h3 := F5.out h1 h2
        have H1 := Lib.hid h1
        have H2 := Lib.hid h2
        have H3 := Lib.hid h3
        clear h1 h2 h3
        go_wp2_with (fail)
        refine (HFC.out a c _ _ w9 HB9.out (HA.out.stays (keeps_of_below (KEEP.out _ HB9.out))) (HC.out.stays (keeps_of_below (KEEP.out _ HB9.out))) HAO.out HCO.out).mono ?_
        rintro e w10 ⟨rfl, hb10⟩
        rw [H1.out]
        have HB10 := Lib.hid (HB9.out.trans (hb10.mono HB9.out.size))
        have HY10 := Lib.hid (HY9.out.stays (keeps_of_below hb10))
        clear hb10
        go_wp2_with (fail)
        refine (HFC.out b c _ _ w10 HB10.out (HB.out.stays (keeps_of_below (KEEP.out _ HB10.out))) (HC.out.stays (keeps_of_below (KEEP.out _ HB10.out))) HBO.out HCO.out).mono ?_
        rintro e w11 ⟨rfl, hb11⟩
        rw [H2.out]
        have HB11 := Lib.hid (HB10.out.trans (hb11.mono HB10.out.size))
        have HY11 := Lib.hid (HY10.out.stays (keeps_of_below hb11))
        clear hb11
        go_wp2_with (fail)
        refine (HFC.out J c _ _ w11 HB11.out HY11.out (HC.out.stays (keeps_of_below (KEEP.out _ HB11.out))) HJO.out HCO.out).mono ?_
        rintro e w12 ⟨rfl, hb12⟩
        rw [H3.out]
        go_wp2
        go_ret
        exact ⟨rfl, KEEP.out _ (HB11.out.trans (hb12.mono HB11.out.size))⟩
  · have hq : (flowsE l acts a b != 0) = true := by simpa using he
    have hq2 : (flowsE l acts a b == 0) = false := by simpa using he
    have KEEP : Hid (∀ W, Below W2.heap.size W2 W → Below w.heap.size w W) := fun W h => HW.out.trans (h.mono HW.out.size)
    clear he hl hao hbo hco
    go_enter Try.func4, Try.ntmps4
    go_wp2_with (fail)
    refine (HJC.out W2 (Below.refl _ _)).mono ?_
    rintro e w3 ⟨y, rfl, hy, hb3⟩
    obtain ⟨b5, o5, c5, p5, rfl, _⟩ := hy.cells
    have g10 : w3.cell? ⟨w.heap.size, 0, none⟩ = some (.slice p0 l.length c0) := (hb3.cell (cell_lt H10.out)).trans H10.out
    have g20 : w3.cell? ⟨w.heap.size + 1, 0, none⟩ = some (.slice p1 acts.length c1) := (hb3.cell (cell_lt H20.out)).trans H20.out
    have HB3 := Lib.hid hb3
    clear hy hb3 h10 h20
    go_wp2_with (fail)
    refine (HNC.out w3 HB3.out).mono ?_
    rintro e w4 ⟨z, rfl, hz, hb4⟩
    obtain ⟨b6, o6, c6, p6, rfl, _⟩ := hz.cells
    have HB4 := Lib.hid (HB3.out.trans (hb4.mono HB3.out.size))
    clear hz hb4 g10 g20
    go_wp2_with (fail)
    refine (labelled_calls _).mono ?_
    rintro e w5 ⟨rfl, hb5⟩
    have HB5 := Lib.hid (HB4.out.trans (hb5.mono HB4.out.size))
    clear hb5
    go_wp2_with (fail)
    refine (labelled_calls _).mono ?_
    rintro e w6 ⟨rfl, hb6⟩
    go_wp2
    go_ret
    exact ⟨rfl, KEEP.out _ (HB5.out.trans (hb6.mono HB5.out.size))⟩
end Go.Proofs.Ytjjlkckhbhgmoaa
