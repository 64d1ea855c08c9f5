/-
  solve.check: the first error of bounds.
-/
import Derived.Test.YtjjlkckhbhgmoaaSolveF
namespace Go.Proofs.Ytjjlkckhbhgmoaa
open Go.RowKit Go.Maps
set_option linter.unusedVariables false
set_option linter.unusedSimpArgs false

set_option maxHeartbeats 8000000 in
set_option maxRecDepth 100000 in
theorem solveCheck_calls (l : List Txt) (acts : List (Txt × Txt)) (n : Int) (bs : List Bnd) (v u t : Value) (w : World) (hv : Strs w l v) (hu : Prs w acts u) (ht : Bnds w bs t) :
    Calls Try.prog 36 #[v, u, .int .i64 n, t] w fun e w' => e = .returned (.int .i64 (solveE l acts n bs)) ∧ Below w.heap.size w w' := by
  obtain ⟨b0, o0, c0, p0, rfl, _⟩ := hv.cells
  obtain ⟨b1, o1, c1, p1, rfl, _⟩ := hu.cells
  obtain ⟨b2, o2, c2, p2, rfl, hlc2, hcm2, hp2, hcells2⟩ := ht.cells
  have i0 : ∀ x y (w : World), (Instr.index 68 (.agg #[x, y]) (.int .i64 0)).run Try.prog w = .ok x w := fun _ _ _ => by kernel_rfl
  have i1 : ∀ x y (w : World), (Instr.index 68 (.agg #[x, y]) (.int .i64 1)).run Try.prog w = .ok y w := fun _ _ _ => by kernel_rfl
  obtain ⟨W2, eW⟩ : ∃ W2, (w.alloc (.cells #[.slice p0 l.length c0] 22)).alloc (.cells #[.int .i64 n] 3) = W2 := ⟨_, rfl⟩
  obtain ⟨z2, hW, m1, m2⟩ := boxes2 eW
  have h10 := m1 0
  have h20 := m2 0
  simp only [List.getElem?_toArray, List.getElem?_cons_zero] at h10 h20
  have HW := Lib.hid hW
  have H10 := Lib.hid h10
  have H20 := Lib.hid h20
  have HV := Lib.hid (hv.stays (keeps_of_below hW))
  have HU := Lib.hid (hu.stays (keeps_of_below hW))
  have HCE := Lib.hid hcells2
  have HPP := Lib.hid hp2
  have KEEP : Hid (∀ W, Below W2.heap.size W2 W → Below w.heap.size w W) := fun W h => HW.out.trans (h.mono HW.out.size)
  have eg1 : ∀ args w, (callFunc 59 args).run Try.prog w = .ok (.enter 59 args) w := enters_at Try.func59 (by kernel_rfl) rfl
  have eg2 : ∀ args w, (callFunc 60 args).run Try.prog w = .ok (.enter 60 args) w := enters_at Try.func60 (by kernel_rfl) rfl
  have HE1 := Lib.hid eg1
  have HE2 := Lib.hid eg2
  clear m1 m2 hW z2 hv hu ht hcells2 hp2 eg1 eg2
  by_cases hc : checkC l acts = 0
  · have HC := Lib.hid hc
    have HCK := Lib.hid (check_calls l acts _ _ W2 HV.out HU.out)
    by_cases hbad : n < 0 ∨ 400 < n ∨ 400 < bs.length
    · have HX : Hid (solveE l acts n bs = 2) := by unfold Hid solveE; rw [if_neg (by omega), if_pos hbad]
      by_cases g1 : n < 0
      · clear hbad hc i0 i1
        go_enter Try.func36, Try.ntmps36
        go_wp2_with (fail)
        refine HCK.out.mono ?_
        rintro e w1 ⟨rfl, hb1⟩
        rw [HC.out]
        have f1 : w1.cell? ⟨w.heap.size + 1, 0, none⟩ = some (.int .i64 n) := (hb1.cell (cell_lt H20.out)).trans H20.out
        go_wp2
        go_ret
        exact ⟨by rw [HX.out]; rfl, KEEP.out _ hb1⟩
      · by_cases g2 : 400 < n
        · clear hbad hc i0 i1
          go_enter Try.func36, Try.ntmps36
          go_wp2_with (fail)
          refine HCK.out.mono ?_
          rintro e w1 ⟨rfl, hb1⟩
          rw [HC.out]
          have f1 : w1.cell? ⟨w.heap.size + 1, 0, none⟩ = some (.int .i64 n) := (hb1.cell (cell_lt H20.out)).trans H20.out
          go_wp2
          go_ret
          exact ⟨by rw [HX.out]; rfl, KEEP.out _ hb1⟩
        · have g3 : (400 : Int) < (bs.length : Int) := by omega
          clear hbad hc i0 i1
          go_enter Try.func36, Try.ntmps36
          go_wp2_with (fail)
          refine HCK.out.mono ?_
          rintro e w1 ⟨rfl, hb1⟩
          rw [HC.out]
          have f1 : w1.cell? ⟨w.heap.size + 1, 0, none⟩ = some (.int .i64 n) := (hb1.cell (cell_lt H20.out)).trans H20.out
          go_wp2
          go_ret
          exact ⟨by rw [HX.out]; rfl, KEEP.out _ hb1⟩
    · have HX : Hid (solveE l acts n bs = bndsErr l acts n bs) := by unfold Hid solveE; rw [if_neg (by omega), if_neg hbad]
      have g1 : ¬ n < 0 := by omega
      have g2 : ¬ 400 < n := by omega
      have g3 : ¬ (400 : Int) < (bs.length : Int) := by omega
      clear hbad hc
      go_enter Try.func36, Try.ntmps36
      go_wp2_with (fail)
      refine HCK.out.mono ?_
      rintro e w1 ⟨rfl, hb1⟩
      rw [HC.out]
      have f1 : w1.cell? ⟨w.heap.size + 1, 0, none⟩ = some (.int .i64 n) := (hb1.cell (cell_lt H20.out)).trans H20.out
      have HB1 := Lib.hid hb1
      clear hb1
      go_wp2
      go_loopw [34] (fun i ws => ∃ (k : Nat) (wo : World), k ≤ bs.length ∧ i = .int .i64 k ∧ wo = ws ∧ Below W2.heap.size W2 wo ∧ Hid (∀ j (hj : j < bs.length), j < k → bndErr l acts n bs[j] = 0)) (fun i _ => bs.length - (intOf i).toNat)
      case atStart => exact ⟨0, _, Nat.zero_le _, rfl, rfl, HB1.out, fun j _ hj => absurd hj (Nat.not_lt_zero _)⟩
      case round =>
        clear f1 g1 g2 g3
        obtain ⟨k, wo, hk, rfl, rfl, hbr, HK⟩ := hrel
        by_cases hlt : k < bs.length
        · obtain ⟨x0, x1, x2, x3, x4, x5, his, e0, e1, e2, e3, e4, e5⟩ := HCE.out k hlt
          obtain rfl := HPP.out (by omega)
          have hbw := KEEP.out _ hbr
          have his' := his.stays (keeps_of_below hbw)
          have k0 : wo.cell? ⟨b2, o2 + k * 6, none⟩ = some x0 := (hbw.cell (cell_lt e0)).trans e0
          have k1 : wo.cell? ⟨b2, o2 + k * 6 + 1, none⟩ = some x1 := (hbw.cell (cell_lt e1)).trans e1
          have k2 : wo.cell? ⟨b2, o2 + k * 6 + 2, none⟩ = some x2 := (hbw.cell (cell_lt e2)).trans e2
          have k3 : wo.cell? ⟨b2, o2 + k * 6 + 3, none⟩ = some x3 := (hbw.cell (cell_lt e3)).trans e3
          have k4 : wo.cell? ⟨b2, o2 + k * 6 + 4, none⟩ = some x4 := (hbw.cell (cell_lt e4)).trans e4
          have k5 : wo.cell? ⟨b2, o2 + k * 6 + 5, none⟩ = some x5 := (hbw.cell (cell_lt e5)).trans e5
          have hfr := his'.from_
          have hla := his'.lab
          have hto := his'.to
          have hin := his'.into
          have hat := his'.at_
          have hfo := his'.for_
          clear his his' e0 e1 e2 e3 e4 e5
          subst hto hat
          obtain ⟨bf, of_, cf, pf, rfl, _, hcf, _⟩ := hfr.cells
          obtain ⟨bl, ol, cl, pl, rfl, _⟩ := hla.cells
          obtain ⟨bi, oi, ci, pi_, rfl, _⟩ := hin.cells
          obtain ⟨bo, oo, co, po, rfl, _⟩ := hfo.cells
          obtain ⟨W4, eW4⟩ : ∃ W4, wo.alloc (.cells #[.slice pf (bFrom bs[k]).length cf, .slice pl (bL bs[k]).length cl, .int .i64 (bTo bs[k]), .slice pi_ (bInto bs[k]).length ci, .int .i64 bs[k].2.2.2.2.1, .slice po (bFor bs[k]).length co] 46) = W4 := ⟨_, rfl⟩
          obtain ⟨z4, hW4, m4⟩ := boxes1 eW4
          have j0 := m4 0
          have j1 := m4 1
          have j2 := m4 2
          have j3 := m4 3
          have j4 := m4 4
          have j5 := m4 5
          simp only [List.getElem?_toArray, List.getElem?_cons_zero, List.getElem?_cons_succ] at j0 j1 j2 j3 j4 j5
          have HB4 := Lib.hid (hbr.trans (hW4.mono hbr.size))
          have HFR := Lib.hid (hfr.stays (keeps_of_below hW4))
          have HLA := Lib.hid (hla.stays (keeps_of_below hW4))
          have HIN := Lib.hid (hin.stays (keeps_of_below hW4))
          have HFO := Lib.hid (hfo.stays (keeps_of_below hW4))
          have HER : Hid (∀ e, bndErr l acts n bs[k] = e → e ≠ 0 → solveE l acts n bs = e) := fun e he hne => by rw [HX.out, bndsErr_at hlt (by rw [he]; exact hne) HK.out, he]
          have HC4 : Hid (∀ W, Below W4.heap.size W4 W → W.cell? ⟨w.heap.size, 0, none⟩ = some (.slice p0 l.length c0) ∧ W.cell? ⟨w.heap.size + 1, 0, none⟩ = some (.int .i64 n) ∧ W.cell? ⟨wo.heap.size, 0, none⟩ = some (.slice pf (bFrom bs[k]).length cf) ∧ W.cell? ⟨wo.heap.size, 1, none⟩ = some (.slice pl (bL bs[k]).length cl) ∧
              W.cell? ⟨wo.heap.size, 2, none⟩ = some (.int .i64 (bTo bs[k])) ∧ W.cell? ⟨wo.heap.size, 3, none⟩ = some (.slice pi_ (bInto bs[k]).length ci) ∧ W.cell? ⟨wo.heap.size, 5, none⟩ = some (.slice po (bFor bs[k]).length co)) := fun W hb => by
            have hb2 : Below W2.heap.size W2 W := HB4.out.trans (hb.mono HB4.out.size)
            exact ⟨(hb2.cell (cell_lt H10.out)).trans H10.out, (hb2.cell (cell_lt H20.out)).trans H20.out, (hb.cell (cell_lt j0)).trans j0, (hb.cell (cell_lt j1)).trans j1, (hb.cell (cell_lt j2)).trans j2, (hb.cell (cell_lt j3)).trans j3, (hb.cell (cell_lt j5)).trans j5⟩
          have HCI := Lib.hid (containsInt_calls (bFrom bs[k]) _ 59 #[.pointer (some ⟨w.heap.size + 1, 0, none⟩)] (fun j => decide (j < 0 ∨ n ≤ j)) W4 HFR.out HE1.out fun j hj W hb => checkN_calls j n (w.heap.size + 1) W ((hb.cell (cell_lt (HC4.out W4 (Below.refl _ _)).2.1)).trans (HC4.out W4 (Below.refl _ _)).2.1))
          obtain ⟨q0, q1, q2, q3, q4, q5, q6⟩ := HC4.out W4 (Below.refl _ _)
          clear m4 hW4 z4 hfr hla hin hfo j0 j1 j2 j3 j4 j5 hbr hbw
          by_cases t1 : bTo bs[k] < -1
          · have HE : Hid (solveE l acts n bs = 3) := HER.out 3 (bndErr_range (rangeB_iff.2 (.inl t1))) (by decide)
            go_wp2
            go_ret
            exact ⟨by rw [HE.out]; rfl, KEEP.out _ HB4.out⟩
          · by_cases t2 : n ≤ bTo bs[k]
            · have HE : Hid (solveE l acts n bs = 3) := HER.out 3 (bndErr_range (rangeB_iff.2 (.inr (.inl t2)))) (by decide)
              go_wp2
              go_ret
              exact ⟨by rw [HE.out]; rfl, KEEP.out _ HB4.out⟩
            · cases t3 : (anyBy (bFrom bs[k]) fun j => decide (j < 0 ∨ n ≤ j)) with
              | true =>
                have HE : Hid (solveE l acts n bs = 3) := HER.out 3 (bndErr_range (by unfold rangeB; rw [t3]; simp)) (by decide)
                rw [t3] at HCI
                clear t3
                go_wp2_with (fail)
                refine HCI.out.mono ?_
                rintro e w5 ⟨rfl, hb5⟩
                go_wp2
                go_ret
                exact ⟨by rw [HE.out]; rfl, KEEP.out _ (HB4.out.trans (hb5.mono HB4.out.size))⟩
              | false =>
                by_cases t4 : 400 < (bFrom bs[k]).length
                · have HE : Hid (solveE l acts n bs = 3) := HER.out 3 (bndErr_range (by unfold rangeB; rw [decide_eq_true t4]; simp)) (by decide)
                  have t4' : (400 : Int) < ((bFrom bs[k]).length : Int) := by omega
                  rw [t3] at HCI
                  clear t3 t4
                  go_wp2_with (fail)
                  refine HCI.out.mono ?_
                  rintro e w5 ⟨rfl, hb5⟩
                  have HB5 := Lib.hid hb5
                  clear q0 q1 q2 q3 q4 q5 q6
                  obtain ⟨q0, q1, q2, q3, q4, q5, q6⟩ := HC4.out w5 hb5
                  clear hb5
                  go_wp2
                  go_ret
                  exact ⟨by rw [HE.out]; rfl, KEEP.out _ (HB4.out.trans (HB5.out.mono HB4.out.size))⟩
                · have hrg : rangeB n bs[k] = false := by
                    unfold rangeB
                    rw [t3]
                    simp [t1, t2, t4]
                  have HRG := Lib.hid hrg
                  have t4' : ¬ (400 : Int) < ((bFrom bs[k]).length : Int) := by omega
                  rw [t3] at HCI
                  clear t3 t4 hrg
                  go_wp2_with (fail)
                  refine HCI.out.mono ?_
                  rintro e w5 ⟨rfl, hb5⟩
                  have HB5 := Lib.hid hb5
                  clear q0 q1 q2 q3 q4 q5 q6
                  obtain ⟨q0, q1, q2, q3, q4, q5, q6⟩ := HC4.out w5 hb5
                  clear hb5
                  go_wp2
                  go_loopw [64] (fun i ws => ∃ (m : Nat) (wi : World), m ≤ 2 ∧ i = .int .i64 m ∧ wi = ws ∧ Below W4.heap.size W4 wi ∧ Hid ((0 < m → labE l acts (bL bs[k]) = 0) ∧ (1 < m → labE l acts (bInto bs[k]) = 0))) (fun i _ => 2 - (intOf i).toNat)
                  case atStart => exact ⟨0, _, by omega, rfl, rfl, HB5.out, fun h => absurd h (by omega), fun h => absurd h (by omega)⟩
                  case round =>
                    clear q0 q1 q2 q3 q4 q5 q6
                    obtain ⟨m, wi, hm, rfl, rfl, hbi, HM⟩ := hrel
                    obtain ⟨q0, q1, q2, q3, q4, q5, q6⟩ := HC4.out wi hbi
                    have HBI := Lib.hid hbi
                    have hk24 : Keeps W2 wi := keeps_of_below (HB4.out.trans (hbi.mono HB4.out.size))
                    have HVI := Lib.hid (HV.out.stays hk24)
                    have HUI := Lib.hid (HU.out.stays hk24)
                    have HLI := Lib.hid (HLA.out.stays (keeps_of_below hbi))
                    have HII := Lib.hid (HIN.out.stays (keeps_of_below hbi))
                    have HFI := Lib.hid (HFO.out.stays (keeps_of_below hbi))
                    clear hbi hk24
                    match m, hm, HM with
                    | 0, _, HM =>
                      by_cases he : labE l acts (bL bs[k]) = 0
                      · have HE := Lib.hid he
                        go_wp2_with (fail)
                        refine (labCheck_calls l acts (bL bs[k]) _ _ _ _ HVI.out HUI.out HLI.out).mono ?_
                        rintro e w6 ⟨rfl, hb6⟩
                        rw [he]
                        clear he
                        go_wp2
                        go_roundw
                        case rel => exact ⟨1, _, by omega, by go_num, rfl, HBI.out.trans (hb6.mono HBI.out.size), fun _ => HE.out, fun h => absurd h (by omega)⟩
                        case measure => simp [intOf]
                      · have HE : Hid (solveE l acts n bs = labE l acts (bL bs[k])) := HER.out _ (bndErr_lab HRG.out he) he
                        have hq : (labE l acts (bL bs[k]) != 0) = true := by simpa using he
                        have hq2 : (labE l acts (bL bs[k]) == 0) = false := by simpa using he
                        clear he
                        go_wp2_with (fail)
                        refine (labCheck_calls l acts (bL bs[k]) _ _ _ _ HVI.out HUI.out HLI.out).mono ?_
                        rintro e w6 ⟨rfl, hb6⟩
                        have HB6 := Lib.hid (KEEP.out _ (HB4.out.trans ((HBI.out.trans (hb6.mono HBI.out.size)).mono HB4.out.size)))
                        go_wp2
                        go_ret
                        exact ⟨by rw [HE.out]; rfl, HB6.out⟩
                    | 1, _, HM =>
                      have HE0 : Hid (labE l acts (bL bs[k]) = 0) := HM.out.1 (by omega)
                      by_cases he : labE l acts (bInto bs[k]) = 0
                      · have HE := Lib.hid he
                        go_wp2_with (fail)
                        refine (labCheck_calls l acts (bInto bs[k]) _ _ _ _ HVI.out HUI.out HII.out).mono ?_
                        rintro e w6 ⟨rfl, hb6⟩
                        rw [he]
                        clear he
                        go_wp2
                        go_roundw
                        case rel => exact ⟨2, _, by omega, by go_num, rfl, HBI.out.trans (hb6.mono HBI.out.size), fun _ => HE0.out, fun _ => HE.out⟩
                        case measure => simp [intOf]
                      · have HE : Hid (solveE l acts n bs = labE l acts (bInto bs[k])) := HER.out _ (bndErr_into HRG.out HE0.out he) he
                        have hq : (labE l acts (bInto bs[k]) != 0) = true := by simpa using he
                        have hq2 : (labE l acts (bInto bs[k]) == 0) = false := by simpa using he
                        clear he
                        go_wp2_with (fail)
                        refine (labCheck_calls l acts (bInto bs[k]) _ _ _ _ HVI.out HUI.out HII.out).mono ?_
                        rintro e w6 ⟨rfl, hb6⟩
                        have HB6 := Lib.hid (KEEP.out _ (HB4.out.trans ((HBI.out.trans (hb6.mono HBI.out.size)).mono HB4.out.size)))
                        go_wp2
                        go_ret
                        exact ⟨by rw [HE.out]; rfl, HB6.out⟩
                    | 2, _, HM =>
                      have HE0 : Hid (labE l acts (bL bs[k]) = 0) := HM.out.1 (by omega)
                      have HEI : Hid (labE l acts (bInto bs[k]) = 0) := HM.out.2 (by omega)
                      by_cases t6 : 6 < (bFor bs[k]).length
                      · have HE : Hid (solveE l acts n bs = 2) := HER.out 2 (bndErr_many HRG.out HE0.out HEI.out t6) (by decide)
                        have t6' : (6 : Int) < ((bFor bs[k]).length : Int) := by omega
                        have HB6 := Lib.hid (KEEP.out _ (HB4.out.trans (HBI.out.mono HB4.out.size)))
                        go_wp2
                        go_ret
                        exact ⟨by rw [HE.out]; rfl, HB6.out⟩
                      · have t6' : ¬ (6 : Int) < ((bFor bs[k]).length : Int) := by omega
                        have HCF := Lib.hid (containsFunc_calls (bFor bs[k]) _ 60 #[.pointer (some ⟨w.heap.size, 0, none⟩)] (fun s => !has l s) wi HFI.out HE2.out fun s hs W hb => checkS_calls l s _ w.heap.size W (HVI.out.stays (keeps_of_below hb)) ((hb.cell (cell_lt q0)).trans q0))
                        have HWH := Lib.hid (bndErr_who HRG.out HE0.out HEI.out t6)
                        clear t6
                        cases t7 : anyBy (bFor bs[k]) fun s => !has l s with
                        | true =>
                          have HE : Hid (solveE l acts n bs = 5) := HER.out 5 (by rw [HWH.out, t7]; rfl) (by decide)
                          rw [t7] at HCF
                          clear t7
                          go_wp2_with (fail)
                          refine HCF.out.mono ?_
                          rintro e w6 ⟨rfl, hb6⟩
                          have HB6 := Lib.hid (KEEP.out _ (HB4.out.trans ((HBI.out.trans (hb6.mono HBI.out.size)).mono HB4.out.size)))
                          go_wp2
                          go_ret
                          exact ⟨by rw [HE.out]; rfl, HB6.out⟩
                        | false =>
                          have HE : Hid (bndErr l acts n bs[k] = 0) := by unfold Hid; rw [HWH.out, t7]; rfl
                          rw [t7] at HCF
                          clear t7
                          go_wp2_with (fail)
                          refine HCF.out.mono ?_
                          rintro e w6 ⟨rfl, hb6⟩
                          have HB6 := Lib.hid (HB4.out.trans ((HBI.out.trans (hb6.mono HBI.out.size)).mono HB4.out.size))
                          go_wp2
                          go_roundw
                          case rel =>
                            refine ⟨k + 1, _, by omega, by go_num, rfl, HB6.out, fun j hj hj' => ?_⟩
                            by_cases e : j = k
                            · subst e; exact HE.out
                            · exact HK.out j hj (by omega)
                          case measure => simp [intOf]; omega
        · have HF : Hid (bndsErr l acts n bs = 0) := bndsErr_zero.2 fun b hb => by
            obtain ⟨j, hj, rfl⟩ := List.getElem_of_mem hb
            exact HK.out j hj (by omega)
          have HBR := Lib.hid (KEEP.out _ hbr)
          clear hbr HK
          go_wp2
          go_ret
          exact ⟨by rw [HX.out, HF.out]; rfl, HBR.out⟩
  · have HX : Hid (solveE l acts n bs = checkC l acts) := by unfold Hid solveE; rw [if_pos hc]
    have HCK := Lib.hid (check_calls l acts _ _ W2 HV.out HU.out)
    have hq : (checkC l acts != 0) = true := by simpa using hc
    have hq2 : (checkC l acts == 0) = false := by simpa using hc
    clear hc i0 i1
    go_enter Try.func36, Try.ntmps36
    go_wp2_with (fail)
    refine HCK.out.mono ?_
    rintro e w1 ⟨rfl, hb1⟩
    go_wp2
    go_ret
    exact ⟨by rw [HX.out]; rfl, KEEP.out _ hb1⟩
end Go.Proofs.Ytjjlkckhbhgmoaa
