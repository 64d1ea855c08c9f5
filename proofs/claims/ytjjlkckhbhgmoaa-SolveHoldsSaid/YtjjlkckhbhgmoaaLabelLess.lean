/-
  cloisterref.SameLabel at equal labels; cloisterlaw.LabelLess: the call returns true.
-/
import Derived.Test.YtjjlkckhbhgmoaaLessC
import Derived.Test.YtjjlkckhbhgmoaaEqS
import Derived.Test.YtjjlkckhbhgmoaaLabelled
namespace Go.Proofs.Ytjjlkckhbhgmoaa
open Go.RowKit Go.Maps
set_option linter.unusedVariables false
set_option linter.unusedSimpArgs false

set_option maxHeartbeats 1000000 in
theorem sameF_calls (x : Pol) (vx vy : Value) (w : World) (hx : Strs w x.2 vx) (hy : Strs w x.2 vy) :
    Calls Try.prog 34 #[.agg #[.string x.1, vx], .agg #[.string x.1, vy]] w fun e w' => e = .returned (.bool true) ∧ Below w.heap.size w w' := by
  obtain ⟨b1, o1, c1, p1, rfl, _⟩ := hx.cells
  obtain ⟨b2, o2, c2, p2, rfl, _⟩ := hy.cells
  obtain ⟨W2, eW⟩ : ∃ W2, (w.alloc (.cells #[.string x.1, .slice p1 x.2.length c1] 58)).alloc (.cells #[.string x.1, .slice p2 x.2.length c2] 58) = W2 := ⟨_, rfl⟩
  obtain ⟨z2, hW, m1, m2⟩ := boxes2 eW
  have h10 := m1 0
  have h11 := m1 1
  have h20 := m2 0
  have h21 := m2 1
  simp only [List.getElem?_toArray, List.getElem?_cons_zero, List.getElem?_cons_succ] at h10 h11 h20 h21
  have q1 : (x.1.toList == x.1.toList) = true := by simp
  have HX := Lib.hid (hx.stays (keeps_of_below hW))
  have HY := Lib.hid (hy.stays (keeps_of_below hW))
  have HW := Lib.hid hW
  clear m1 m2 hW z2 hx hy
  go_enter Try.func34, Try.ntmps34
  go_wp2_with (fail)
  refine (equalS_calls x.2 x.2 _ _ _ HX.out HY.out).mono ?_
  rintro e w1 ⟨rfl, n, rfl⟩
  have HE : Hid ((x.2 == x.2) = true) := by unfold Hid; simp
  rw [HE.out]
  have HWN := Lib.hid (below_drewN HW.out n)
  go_wp2
  go_ret
  exact ⟨rfl, HWN.out⟩

set_option maxHeartbeats 2000000 in
theorem eqPol_calls (x : Lab) (vx vy : Value) (w : World) (hx : Lbl w x vx) (hy : Lbl w x vy) :
    Calls Try.prog 33 #[vx, vy, .func (.func 34) #[] #[]] w fun e w' => e = .returned (.bool true) ∧ Below w.heap.size w w' := by
  obtain ⟨b1, o1, c1, p1, rfl, hlc1, hcm1, hp1, hcells1⟩ := hx.cells
  obtain ⟨b2, o2, c2, p2, rfl, hlc2, hcm2, hp2, hcells2⟩ := hy.cells
  clear hx hy
  go_enter Try.func33, Try.ntmps33
  go_wp2
  go_loopw [7, 8, 9, 17] (fun _ _ _ i ws => ∃ (k : Nat) (wo : World), k ≤ x.length ∧ i = .int .i64 k ∧ wo = ws ∧ Below w.heap.size w wo) (fun _ _ _ i _ => x.length - (intOf i).toNat)
  case atStart => exact ⟨0, _, Nat.zero_le _, rfl, rfl, Below.refl _ _⟩
  case round =>
    obtain ⟨k, wo, hk, rfl, rfl, hb⟩ := hrel
    by_cases hlt : k < x.length
    · obtain ⟨u1, g0, g1, hu1⟩ := hcells1 k hlt
      obtain ⟨u2, g2, g3, hu2⟩ := hcells2 k hlt
      obtain rfl := hp1 (by omega)
      obtain rfl := hp2 (by omega)
      have e0 : wo.cell? ⟨b1, o1 + k * 2, none⟩ = some (.string x[k].1) := (hb.cell (cell_lt g0)).trans g0
      have e1 : wo.cell? ⟨b1, o1 + k * 2 + 1, none⟩ = some u1 := (hb.cell (cell_lt g1)).trans g1
      have e2 : wo.cell? ⟨b2, o2 + k * 2, none⟩ = some (.string x[k].1) := (hb.cell (cell_lt g2)).trans g2
      have e3 : wo.cell? ⟨b2, o2 + k * 2 + 1, none⟩ = some u2 := (hb.cell (cell_lt g3)).trans g3
      have hv1 := hu1.stays (keeps_of_below hb)
      have hv2 := hu2.stays (keeps_of_below hb)
      obtain ⟨bu1, ou1, cu1, pu1, rfl, _⟩ := hv1.cells
      obtain ⟨bu2, ou2, cu2, pu2, rfl, _⟩ := hv2.cells
      obtain ⟨W2, eW⟩ : ∃ W2, (wo.alloc (.cells #[.string x[k].1, .slice pu1 x[k].2.length cu1] 58)).alloc (.cells #[.string x[k].1, .slice pu2 x[k].2.length cu2] 58) = W2 := ⟨_, rfl⟩
      obtain ⟨z2, hW, m1, m2⟩ := boxes2 eW
      have h10 := m1 0
      have h11 := m1 1
      have h20 := m2 0
      have h21 := m2 1
      simp only [List.getElem?_toArray, List.getElem?_cons_zero, List.getElem?_cons_succ] at h10 h11 h20 h21
      have e4 : (wo.alloc (.cells #[.string x[k].1, .slice pu1 x[k].2.length cu1] 58)).cell? ⟨b2, o2 + k * 2, none⟩ = some (.string x[k].1) := by rw [alloc_cell_old _ _ _ _ (cell_lt e2)]; exact e2
      have e5 : (wo.alloc (.cells #[.string x[k].1, .slice pu1 x[k].2.length cu1] 58)).cell? ⟨b2, o2 + k * 2 + 1, none⟩ = some (.slice pu2 x[k].2.length cu2) := by rw [alloc_cell_old _ _ _ _ (cell_lt e3)]; exact e3
      have HC := Lib.hid (sameF_calls x[k] _ _ W2 (hv1.stays (keeps_of_below hW)) (hv2.stays (keeps_of_below hW)))
      have HB2 := Lib.hid (hb.trans (hW.mono hb.size))
      clear m1 m2 hW z2 hv1 hv2 hu1 hu2 g0 g1 g2 g3 e2 e3
      go_wp2_with (fail)
      refine HC.out.mono ?_
      rintro e w1 ⟨rfl, hb1⟩
      have HB1 := Lib.hid (HB2.out.trans (hb1.mono HB2.out.size))
      go_wp2
      go_roundw
      case rel => exact ⟨k + 1, _, by omega, by go_num, rfl, HB1.out⟩
      case measure => simp [intOf]; omega
    · go_wp2
      go_ret
      exact ⟨rfl, hb⟩
theorem sameLabel_calls (x : Lab) (vx vy : Value) (w : World) (hx : Lbl w x vx) (hy : Lbl w x vy) :
    Calls Try.prog 9 #[vx, vy] w fun e w' => e = .returned (.bool true) ∧ Below w.heap.size w w' := by
  obtain ⟨b1, o1, c1, p1, rfl, _⟩ := hx.cells
  obtain ⟨b2, o2, c2, p2, rfl, _⟩ := hy.cells
  go_enter Try.func9, Try.ntmps9
  go_wp2_with (fail)
  refine (eqPol_calls x _ _ _ hx hy).mono ?_
  rintro e w1 ⟨rfl, hb⟩
  go_wp2
  go_ret
  exact ⟨rfl, hb⟩

set_option maxHeartbeats 4000000 in
set_option maxRecDepth 100000 in
theorem labelLess_calls (l : List Txt) (acts : List (Txt × Txt)) (a : Lab) (by_ : List Txt) (v u va vb : Value) (w : World) (hv : Strs w l v) (hu : Prs w acts u) (ha : Lbl w a va) (hb : Strs w by_ vb) (hl : okList okTxt l) (hao : okLab a) (hbo : okList okTxt by_) :
    Calls Try.prog 3 #[v, u, va, vb] w fun e w' => e = .returned (.bool true) ∧ Below w.heap.size w w' := by
  obtain ⟨b0, o0, c0, p0, rfl, _⟩ := hv.cells
  obtain ⟨b1, o1, c1, p1, rfl, _⟩ := hu.cells
  obtain ⟨b2, o2, c2, p2, rfl, _⟩ := ha.cells
  obtain ⟨b3, o3, c3, p3, rfl, _⟩ := hb.cells
  by_cases he : lessE l acts a by_ = 0
  · obtain ⟨f1, f2, f3, f4, f5, f6⟩ := less_law he
    have ex : lessR l acts a by_ = lessL (mayB l acts) a by_ := by unfold lessR; rw [if_pos he]
    have ey : lessR l acts (lessL (mayB l acts) a by_) by_ = lessL (mayB l acts) a by_ := by unfold lessR; rw [if_pos f3, f4]
    have ez : lessR l acts a l = [] := by unfold lessR; rw [if_pos f5, f6]
    have hxo : okLab (lessL (mayB l acts) a by_) := okLab_norm fun p hp => hao p (List.mem_filter.1 hp).1
    generalize lessL (mayB l acts) a by_ = X at *
    have HE := Lib.hid he
    have F1 := Lib.hid f1
    have F2 := Lib.hid f2
    have F3 := Lib.hid f3
    have F5 := Lib.hid f5
    have EX := Lib.hid ex
    have EY := Lib.hid ey
    have EZ := Lib.hid ez
    have HXO := Lib.hid hxo
    clear he f1 f2 f3 f4 f5 f6 ex ey ez hxo
    go_enter Try.func3, Try.ntmps3
    go_wp2_with (fail)
    refine (less_calls l acts a by_ _ _ _ _ _ hv hu ha hb hl hao hbo).mono ?_
    rintro e w1 ⟨y, rfl, hy, hb1⟩
    rw [HE.out]
    rw [EX.out] at hy
    obtain ⟨b5, o5, c5, p5, rfl, _⟩ := hy.cells
    have HB1 := Lib.hid hb1
    have HY1 := Lib.hid hy
    clear hy hb1
    go_wp2_with (fail)
    refine (labelled_calls _).mono ?_
    rintro e w2 ⟨rfl, hb2⟩
    have HB2 := Lib.hid (HB1.out.trans (hb2.mono HB1.out.size))
    have HY2 := Lib.hid (HY1.out.stays (keeps_of_below hb2))
    clear hb2
    go_wp2_with (fail)
    refine (flows_calls l acts X a _ _ _ _ _ (hv.stays (keeps_of_below HB2.out)) (hu.stays (keeps_of_below HB2.out)) HY2.out (ha.stays (keeps_of_below HB2.out)) hl HXO.out hao).mono ?_
    rintro e w3 ⟨rfl, hb3⟩
    rw [F1.out, F2.out]
    have HB3 := Lib.hid (HB2.out.trans (hb3.mono HB2.out.size))
    have HY3 := Lib.hid (HY2.out.stays (keeps_of_below hb3))
    clear hb3
    go_wp2_with (fail)
    refine (less_calls l acts X by_ _ _ _ _ _ (hv.stays (keeps_of_below HB3.out)) (hu.stays (keeps_of_below HB3.out)) HY3.out (hb.stays (keeps_of_below HB3.out)) hl HXO.out hbo).mono ?_
    rintro e w4 ⟨z, rfl, hz, hb4⟩
    rw [F3.out]
    rw [EY.out] at hz
    obtain ⟨b6, o6, c6, p6, rfl, _⟩ := hz.cells
    have HB4 := Lib.hid (HB3.out.trans (hb4.mono HB3.out.size))
    have HY4 := Lib.hid (HY3.out.stays (keeps_of_below hb4))
    have HZ4 := Lib.hid hz
    clear hb4 hz
    go_wp2_with (fail)
    refine (less_calls l acts a l _ _ _ _ _ (hv.stays (keeps_of_below HB4.out)) (hu.stays (keeps_of_below HB4.out)) (ha.stays (keeps_of_below HB4.out)) (hv.stays (keeps_of_below HB4.out)) hl hao hl).mono ?_
    rintro e w5 ⟨t, rfl, ht, hb5⟩
    rw [F5.out]
    rw [EZ.out] at ht
    obtain ⟨b7, o7, c7, p7, rfl, _⟩ := ht.cells
    have HB5 := Lib.hid (HB4.out.trans (hb5.mono HB4.out.size))
    have HY5 := Lib.hid (HY4.out.stays (keeps_of_below hb5))
    have HZ5 := Lib.hid (HZ4.out.stays (keeps_of_below hb5))
    clear hb5 ht
    go_wp2_with (fail)
    refine (sameLabel_calls X _ _ _ HY5.out HZ5.out).mono ?_
    rintro e w6 ⟨rfl, hb6⟩
    have HB6 := Lib.hid (HB5.out.trans (hb6.mono HB5.out.size))
    clear hb6
    go_wp2
    go_ret
    exact ⟨rfl, HB6.out⟩
  · have hq : (lessE l acts a by_ != 0) = true := by simpa using he
    have hq2 : (lessE l acts a by_ == 0) = false := by simpa using he
    clear he
    go_enter Try.func3, Try.ntmps3
    go_wp2_with (fail)
    refine (less_calls l acts a by_ _ _ _ _ _ hv hu ha hb hl hao hbo).mono ?_
    rintro e w1 ⟨y, rfl, hy, hb1⟩
    obtain ⟨b5, o5, c5, p5, rfl, _⟩ := hy.cells
    have HB1 := Lib.hid hb1
    clear hy hb1
    go_wp2_with (fail)
    refine (labelled_calls _).mono ?_
    rintro e w2 ⟨rfl, hb2⟩
    have HB2 := Lib.hid (HB1.out.trans (hb2.mono HB1.out.size))
    clear hb2
    go_wp2_with (fail)
    refine (labelled_calls _).mono ?_
    rintro e w3 ⟨rfl, hb3⟩
    go_wp2
    go_ret
    exact ⟨rfl, HB2.out.trans (hb3.mono HB2.out.size)⟩
end Go.Proofs.Ytjjlkckhbhgmoaa
