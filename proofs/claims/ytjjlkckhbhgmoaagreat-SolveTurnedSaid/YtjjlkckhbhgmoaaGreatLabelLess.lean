/-
  cloisterref.SameLabel at equal labels; cloisterlaw.LabelLess: the call returns true.
-/
import Derived.Test.YtjjlkckhbhgmoaaGreatLessC
import Derived.Test.YtjjlkckhbhgmoaaGreatEqS
namespace Go.Proofs.YtjjlkckhbhgmoaaGreat
open Go.RowKit Go.Maps
set_option linter.unusedVariables false
set_option linter.unusedSimpArgs false

set_option maxHeartbeats 1000000 in
theorem sameF_calls (x : Pol) (vx vy : Value) (w : World) (hx : Strs w x.2 vx) (hy : Strs w x.2 vy) :
    Calls Tryz.prog 30 #[.agg #[.string x.1, vx], .agg #[.string x.1, vy]] w fun e w' => e = .returned (.bool true) ∧ Below w.heap.size w w' := by
  obtain ⟨b1, o1, c1, p1, rfl, _⟩ := hx.cells
  obtain ⟨b2, o2, c2, p2, rfl, _⟩ := hy.cells
  obtain ⟨W2, eW⟩ : ∃ W2, (w.alloc (.cells #[.string x.1, .slice p1 x.2.length c1] 47)).alloc (.cells #[.string x.1, .slice p2 x.2.length c2] 47) = W2 := ⟨_, rfl⟩
  obtain ⟨z2, hW, m1, m2⟩ := boxes2 eW
  have h10 := m1 0
  have h11 := m1 1
  have h20 := m2 0
  have h21 := m2 1
  simp only [List.getElem?_toArray, List.getElem?_cons_zero, List.getElem?_cons_succ] at h10 h11 h20 h21
  have q1 : (x.1.toList == x.1.toList) = true := by simp
  have HX := Lib.hid (hx.stays (keeps_of_below hW))
  have HY := Lib.hid (hy.stays (keeps_of_below hW))
  have HW := Lib.hid hW
  clear m1 m2 hW z2 hx hy
  go_enter Tryz.func30, Tryz.ntmps30
  go_wp2_with (fail)
  refine (equalS_calls x.2 x.2 _ _ _ HX.out HY.out).mono ?_
  rintro e w1 ⟨rfl, n, rfl⟩
  have HE : Hid ((x.2 == x.2) = true) := by unfold Hid; simp
  rw [HE.out]
  have HWN := Lib.hid (below_drewN HW.out n)
  go_wp2
  go_ret
  exact ⟨rfl, HWN.out⟩

set_option maxHeartbeats 2000000 in
theorem eqPol_calls (x : Lab) (vx vy : Value) (w : World) (hx : Lbl w x vx) (hy : Lbl w x vy) :
    Calls Tryz.prog 29 #[vx, vy, .func (.func 30) #[] #[]] w fun e w' => e = .returned (.bool true) ∧ Below w.heap.size w w' := by
  obtain ⟨b1, o1, c1, p1, rfl, hlc1, hcm1, hp1, hcells1⟩ := hx.cells
  obtain ⟨b2, o2, c2, p2, rfl, hlc2, hcm2, hp2, hcells2⟩ := hy.cells
  clear hx hy
  go_enter Tryz.func29, Tryz.ntmps29
  go_wp2
  go_loopw [7, 8, 9, 17] (fun _ _ _ i ws => ∃ (k : Nat) (wo : World), k ≤ x.length ∧ i = .int .i64 k ∧ wo = ws ∧ Below w.heap.size w wo) (fun _ _ _ i _ => x.length - (intOf i).toNat)
  case atStart => exact ⟨0, _, Nat.zero_le _, rfl, rfl, Below.refl _ _⟩
  case round =>
    obtain ⟨k, wo, hk, rfl, rfl, hb⟩ := hrel
    by_cases hlt : k < x.length
    · obtain ⟨u1, g0, g1, hu1⟩ := hcells1 k hlt
      obtain ⟨u2, g2, g3, hu2⟩ := hcells2 k hlt
      obtain rfl := hp1 (by omega)
      obtain rfl := hp2 (by omega)
      have e0 : wo.cell? ⟨b1, o1 + k * 2, none⟩ = some (.string x[k].1) := (hb.cell (cell_lt g0)).trans g0
      have e1 : wo.cell? ⟨b1, o1 + k * 2 + 1, none⟩ = some u1 := (hb.cell (cell_lt g1)).trans g1
      have e2 : wo.cell? ⟨b2, o2 + k * 2, none⟩ = some (.string x[k].1) := (hb.cell (cell_lt g2)).trans g2
      have e3 : wo.cell? ⟨b2, o2 + k * 2 + 1, none⟩ = some u2 := (hb.cell (cell_lt g3)).trans g3
      have hv1 := hu1.stays (keeps_of_below hb)
      have hv2 := hu2.stays (keeps_of_below hb)
      obtain ⟨bu1, ou1, cu1, pu1, rfl, _⟩ := hv1.cells
      obtain ⟨bu2, ou2, cu2, pu2, rfl, _⟩ := hv2.cells
      obtain ⟨W2, eW⟩ : ∃ W2, (wo.alloc (.cells #[.string x[k].1, .slice pu1 x[k].2.length cu1] 47)).alloc (.cells #[.string x[k].1, .slice pu2 x[k].2.length cu2] 47) = W2 := ⟨_, rfl⟩
      obtain ⟨z2, hW, m1, m2⟩ := boxes2 eW
      have h10 := m1 0
      have h11 := m1 1
      have h20 := m2 0
      have h21 := m2 1
      simp only [List.getElem?_toArray, List.getElem?_cons_zero, List.getElem?_cons_succ] at h10 h11 h20 h21
      have e4 : (wo.alloc (.cells #[.string x[k].1, .slice pu1 x[k].2.length cu1] 47)).cell? ⟨b2, o2 + k * 2, none⟩ = some (.string x[k].1) := by rw [alloc_cell_old _ _ _ _ (cell_lt e2)]; exact e2
      have e5 : (wo.alloc (.cells #[.string x[k].1, .slice pu1 x[k].2.length cu1] 47)).cell? ⟨b2, o2 + k * 2 + 1, none⟩ = some (.slice pu2 x[k].2.length cu2) := by rw [alloc_cell_old _ _ _ _ (cell_lt e3)]; exact e3
      have HC := Lib.hid (sameF_calls x[k] _ _ W2 (hv1.stays (keeps_of_below hW)) (hv2.stays (keeps_of_below hW)))
      have HB2 := Lib.hid (hb.trans (hW.mono hb.size))
      clear m1 m2 hW z2 hv1 hv2 hu1 hu2 g0 g1 g2 g3 e2 e3
      go_wp2_with (fail)
      refine HC.out.mono ?_
      rintro e w1 ⟨rfl, hb1⟩
      have HB1 := Lib.hid (HB2.out.trans (hb1.mono HB2.out.size))
      go_wp2
      go_roundw
      case rel => exact ⟨k + 1, _, by omega, by go_num, rfl, HB1.out⟩
      case measure => simp [intOf]; omega
    · go_wp2
      go_ret
      exact ⟨rfl, hb⟩
theorem sameLabel_calls (x : Lab) (vx vy : Value) (w : World) (hx : Lbl w x vx) (hy : Lbl w x vy) :
    Calls Tryz.prog 15 #[vx, vy] w fun e w' => e = .returned (.bool true) ∧ Below w.heap.size w w' := by
  obtain ⟨b1, o1, c1, p1, rfl, _⟩ := hx.cells
  obtain ⟨b2, o2, c2, p2, rfl, _⟩ := hy.cells
  go_enter Tryz.func15, Tryz.ntmps15
  go_wp2_with (fail)
  refine (eqPol_calls x _ _ _ hx hy).mono ?_
  rintro e w1 ⟨rfl, hb⟩
  go_wp2
  go_ret
  exact ⟨rfl, hb⟩

end Go.Proofs.YtjjlkckhbhgmoaaGreat
