/-
  cloisterlaw.badBounds: the first error of bounds, as solve.check has it. solve.into: what a bound brings. Labels in a row of cells that a call has made: they stand where a cell of that row is written. solve.check: the first error of bounds.
-/
import Derived.Test.YtcgihpfanfbonaaGreatDoorSB00
import Derived.Test.YtcgihpfanfbonaaGreatDoorLN24
import Derived.Test.YtcgihpfanfbonaaGreatDoorLN20
import Derived.Deep.OwnRows
namespace Go.Proofs.YtcgihpfanfbonaaGreatDoor
open Go.RowKit Go.Maps
set_option linter.unusedVariables false
set_option linter.unusedSimpArgs false

theorem bkeptT {W V : World} {b o : Nat} {u : Value} (h : Below W.heap.size W V) (hc : W.cell? ⟨b, o, none⟩ = some u) : V.cell? ⟨b, o, none⟩ = some u := (h.cell (cell_lt hc)).trans hc
theorem labE_ok {l : List Txt} {acts : List (Txt × Txt)} (hc : checkC l acts = 0) (x : Lab) : labE l acts x = labErr l x := by unfold labE; simp [hc]

set_option maxHeartbeats 8000000 in
set_option maxRecDepth 100000 in
theorem badBounds_calls (l : List Txt) (acts : List (Txt × Txt)) (n : Int) (bs : List Bnd) (v u t : Value) (mx : Int) (w : World) (hv : Strs w l v) (hu : Prs w acts u) (ht : Bnds w bs t) (hl : okList okTxt l) (ho : ∀ p ∈ acts, okTxt p.1 ∧ okTxt p.2) (hm : w.cell? ⟨0, 0, none⟩ = some (.int .i64 mx)) :
    Calls Tryz.prog 19 #[v, u, .int .i64 n, t] w fun e w' => e = .returned (.int .i64 (solveE l acts n bs)) ∧ Below w.heap.size w w' := by
  have HCK := refCheck_calls l acts v u mx w hv hu hl ho hm
  obtain ⟨b0, o0, c0, p0, rfl, _⟩ := hv.cells
  obtain ⟨b1, o1, c1, p1, rfl, _⟩ := hu.cells
  obtain ⟨b2, o2, c2, p2, rfl, hlc2, hcm2, hp2, hcells2⟩ := ht.cells
  have HCK := Lib.hid HCK
  have HV := Lib.hid hv
  have HCE := Lib.hid hcells2
  have HPP := Lib.hid hp2
  clear hv hu ht hcells2 hp2 hl ho hm
  by_cases hc : checkC l acts = 0
  · have HC := Lib.hid hc
    have HLE : Hid (∀ x, labE l acts x = labErr l x) := fun x => labE_ok hc x
    by_cases hbad : n < 0 ∨ 400 < n ∨ 400 < bs.length
    · have HX : Hid (solveE l acts n bs = 2) := by unfold Hid solveE; rw [if_neg (by omega), if_pos hbad]
      by_cases g1 : n < 0
      · clear hbad hc
        go_enter Tryz.func19, Tryz.ntmps19
        go_wp2_with (fail)
        refine HCK.out.mono ?_
        rintro e w1 ⟨rfl, hb1⟩
        rw [HC.out]
        go_wp2
        go_ret
        exact ⟨by rw [HX.out]; rfl, hb1⟩
      · by_cases g2 : 400 < n
        · clear hbad hc
          go_enter Tryz.func19, Tryz.ntmps19
          go_wp2_with (fail)
          refine HCK.out.mono ?_
          rintro e w1 ⟨rfl, hb1⟩
          rw [HC.out]
          go_wp2
          go_ret
          exact ⟨by rw [HX.out]; rfl, hb1⟩
        · have g3 : (400 : Int) < (bs.length : Int) := by omega
          clear hbad hc
          go_enter Tryz.func19, Tryz.ntmps19
          go_wp2_with (fail)
          refine HCK.out.mono ?_
          rintro e w1 ⟨rfl, hb1⟩
          rw [HC.out]
          go_wp2
          go_ret
          exact ⟨by rw [HX.out]; rfl, hb1⟩
    · have HX : Hid (solveE l acts n bs = bndsErr l acts n bs) := by unfold Hid solveE; rw [if_neg (by omega), if_neg hbad]
      have g1 : ¬ n < 0 := by omega
      have g2 : ¬ 400 < n := by omega
      have g3 : ¬ (400 : Int) < (bs.length : Int) := by omega
      clear hbad hc
      go_enter Tryz.func19, Tryz.ntmps19
      go_wp2_with (fail)
      refine HCK.out.mono ?_
      rintro e w1 ⟨rfl, hb1⟩
      rw [HC.out]
      have HB1 := Lib.hid hb1
      clear hb1
      go_wp2
      go_loopw [38] (fun i ws => ∃ (k : Nat) (wo : World), k ≤ bs.length ∧ i = .int .i64 k ∧ wo = ws ∧ Hid (Below w.heap.size w wo) ∧ Hid (∀ j (hj : j < bs.length), j < k → bndErr l acts n bs[j] = 0)) (fun i _ => bs.length - (intOf i).toNat)
      case atStart => exact ⟨0, _, Nat.zero_le _, rfl, rfl, HB1, fun j _ hj => absurd hj (Nat.not_lt_zero _)⟩
      case round =>
        clear g1 g2 g3
        obtain ⟨k, wo, hk, rfl, rfl, HBR, HK⟩ := hrel
        have hbw := HBR.out
        by_cases hlt : k < bs.length
        · obtain ⟨x0, x1, x2, x3, x4, x5, his, e0, e1, e2, e3, e4, e5⟩ := HCE.out k hlt
          obtain rfl := HPP.out (by omega)
          have his' := his.stays (keeps_of_below hbw)
          have k0 : wo.cell? ⟨b2, o2 + k * 6, none⟩ = some x0 := (hbw.cell (cell_lt e0)).trans e0
          have k1 : wo.cell? ⟨b2, o2 + k * 6 + 1, none⟩ = some x1 := (hbw.cell (cell_lt e1)).trans e1
          have k2 : wo.cell? ⟨b2, o2 + k * 6 + 2, none⟩ = some x2 := (hbw.cell (cell_lt e2)).trans e2
          have k3 : wo.cell? ⟨b2, o2 + k * 6 + 3, none⟩ = some x3 := (hbw.cell (cell_lt e3)).trans e3
          have k4 : wo.cell? ⟨b2, o2 + k * 6 + 4, none⟩ = some x4 := (hbw.cell (cell_lt e4)).trans e4
          have k5 : wo.cell? ⟨b2, o2 + k * 6 + 5, none⟩ = some x5 := (hbw.cell (cell_lt e5)).trans e5
          have hfr := his'.from_
          have hla := his'.lab
          have hto := his'.to
          have hin := his'.into
          have hat := his'.at_
          have hfo := his'.for_
          clear his his' e0 e1 e2 e3 e4 e5
          subst hto hat
          have HERX : Hid (∀ e, bndErr l acts n bs[k] = e → e ≠ 0 → solveE l acts n bs = e) := fun e he hne => by rw [HX.out, bndsErr_at hlt (by rw [he]; exact hne) HK.out, he]
          have HNXT : Hid (bndErr l acts n bs[k] = 0 → ∀ j (hj : j < bs.length), j < k + 1 → bndErr l acts n bs[j] = 0) := fun h0 j hj hj' => by
            by_cases e : j = k
            · subst e; exact h0
            · exact HK.out j hj (by omega)
          generalize bs[k] = bk at *
          obtain ⟨bf, of_, cf, pf, rfl, _, hcf, hpf, hcellf⟩ := hfr.cells
          obtain ⟨bl, ol, cl, pl, rfl, _⟩ := hla.cells
          obtain ⟨bi, oi, ci, pi_, rfl, _⟩ := hin.cells
          obtain ⟨bo, oo, co, po, rfl, _, hco, hpo, hcello⟩ := hfo.cells
          obtain ⟨W4, eW4⟩ : ∃ W4, wo.alloc (.cells #[.slice pf (bFrom bk).length cf, .slice pl (bL bk).length cl, .int .i64 (bTo bk), .slice pi_ (bInto bk).length ci, .int .i64 bk.2.2.2.2.1, .slice po (bFor bk).length co] 93) = W4 := ⟨_, rfl⟩
          obtain ⟨z4, hW4, m4⟩ := boxes1 eW4
          have j0 := m4 0
          have j1 := m4 1
          have j2 := m4 2
          have j3 := m4 3
          have j4 := m4 4
          have j5 := m4 5
          simp only [List.getElem?_toArray, List.getElem?_cons_zero, List.getElem?_cons_succ] at j0 j1 j2 j3 j4 j5
          have HB4 := Lib.hid (hbw.trans (hW4.mono hbw.size))
          have HLA := Lib.hid (hla.stays (keeps_of_below hW4))
          have HIN := Lib.hid (hin.stays (keeps_of_below hW4))
          have HPF := Lib.hid hpf
          have HCF : Hid (∀ W, Below W4.heap.size W4 W → ∀ i (hi : i < (bFrom bk).length), W.cell? ⟨bf, of_ + i, none⟩ = some (.int .i64 (bFrom bk)[i])) := fun W h i hi => bkeptT h (bkeptT hW4 (hcellf i hi))
          have HPO := Lib.hid hpo
          have HCO : Hid (∀ W, Below W4.heap.size W4 W → ∀ i (hi : i < (bFor bk).length), W.cell? ⟨bo, oo + i, none⟩ = some (.string (bFor bk)[i])) := fun W h i hi => bkeptT h (bkeptT hW4 (hcello i hi))
          have HC4 : Hid (∀ W, Below W4.heap.size W4 W → W.cell? ⟨wo.heap.size, 0, none⟩ = some (.slice pf (bFrom bk).length cf) ∧ W.cell? ⟨wo.heap.size, 1, none⟩ = some (.slice pl (bL bk).length cl) ∧
              W.cell? ⟨wo.heap.size, 2, none⟩ = some (.int .i64 (bTo bk)) ∧ W.cell? ⟨wo.heap.size, 3, none⟩ = some (.slice pi_ (bInto bk).length ci) ∧ W.cell? ⟨wo.heap.size, 5, none⟩ = some (.slice po (bFor bk).length co)) := fun W hb =>
            ⟨bkeptT hb j0, bkeptT hb j1, bkeptT hb j2, bkeptT hb j3, bkeptT hb j5⟩
          have HVW : Hid (∀ W, Below W4.heap.size W4 W → Strs W l (.slice p0 l.length c0)) := fun W h => HV.out.stays (keeps_of_below (HB4.out.trans (h.mono HB4.out.size)))
          obtain ⟨q2, q3, q4, q5, q6⟩ := HC4.out W4 (Below.refl _ _)
          clear m4 hW4 z4 hfr hla hin hfo j0 j1 j2 j3 j4 j5 hbw hpf hcellf hpo hcello HK
          by_cases t1 : bTo bk < -1
          · have HE : Hid (solveE l acts n bs = 3) := HERX.out 3 (bndErr_range (rangeB_iff.2 (.inl t1))) (by decide)
            go_wp2
            go_ret
            exact ⟨by rw [HE.out]; rfl, HB4.out⟩
          · by_cases t2 : n ≤ bTo bk
            · have HE : Hid (solveE l acts n bs = 3) := HERX.out 3 (bndErr_range (rangeB_iff.2 (.inr (.inl t2)))) (by decide)
              go_wp2
              go_ret
              exact ⟨by rw [HE.out]; rfl, HB4.out⟩
            · by_cases t4 : 400 < (bFrom bk).length
              · have HE : Hid (solveE l acts n bs = 3) := HERX.out 3 (bndErr_range (by unfold rangeB; rw [decide_eq_true t4]; simp)) (by decide)
                have t4' : (400 : Int) < ((bFrom bk).length : Int) := by omega
                go_wp2
                go_ret
                exact ⟨by rw [HE.out]; rfl, HB4.out⟩
              · have t4' : ¬ (400 : Int) < ((bFrom bk).length : Int) := by omega
                have HT : Hid (¬ bTo bk < -1 ∧ ¬ n ≤ bTo bk ∧ ¬ 400 < (bFrom bk).length) := ⟨t1, t2, t4⟩
                go_wp2
                go_loopw [60] (fun i ws => ∃ (m : Nat), m ≤ (bFrom bk).length ∧ i = .int .i64 m ∧ Hid (ws = W4) ∧ Hid (∀ j (hj : j < (bFrom bk).length), j < m → ¬ ((bFrom bk)[j] < 0 ∨ n ≤ (bFrom bk)[j]))) (fun i _ => (bFrom bk).length - (intOf i).toNat)
                case atStart => exact ⟨0, Nat.zero_le _, rfl, rfl, fun j _ hj => absurd hj (Nat.not_lt_zero _)⟩
                case round =>
                  clear q2 q3 q4 q5 q6 t1 t2 t4 t4'
                  obtain ⟨m, hm, rfl, HWR, HM⟩ := hrel
                  have hwr := HWR.out.symm
                  subst hwr
                  obtain ⟨q2, q3, q4, q5, q6⟩ := HC4.out _ (Below.refl _ _)
                  by_cases hmt : m < (bFrom bk).length
                  · have g0 := HCF.out _ (Below.refl _ _) m hmt
                    obtain rfl := HPF.out (by omega)
                    have HRX : Hid (((bFrom bk)[m] < 0 ∨ n ≤ (bFrom bk)[m]) → solveE l acts n bs = 3) := fun h => HERX.out 3 (bndErr_range (rangeB_iff.2 (.inr (.inr (.inl ⟨_, List.getElem_mem hmt, h⟩))))) (by decide)
                    have HMX : Hid (¬ ((bFrom bk)[m] < 0 ∨ n ≤ (bFrom bk)[m]) → ∀ j (hj : j < (bFrom bk).length), j < m + 1 → ¬ ((bFrom bk)[j] < 0 ∨ n ≤ (bFrom bk)[j])) := fun h0 j hj hj' => by
                      by_cases e : j = m
                      · subst e; exact h0
                      · exact HM.out j hj (by omega)
                    generalize (bFrom bk)[m] = z at *
                    by_cases r1 : z < 0
                    · have HE := Lib.hid (HRX.out (.inl r1))
                      go_wp2
                      go_ret
                      exact ⟨by rw [HE.out]; rfl, HB4.out⟩
                    · by_cases r2 : n ≤ z
                      · have HE := Lib.hid (HRX.out (.inr r2))
                        go_wp2
                        go_ret
                        exact ⟨by rw [HE.out]; rfl, HB4.out⟩
                      · have HMN := Lib.hid (HMX.out (by omega))
                        go_wp2
                        go_roundw
                        case rel => exact ⟨m + 1, by omega, by go_num, by first | exact trivial | exact rfl, HMN⟩
                        case measure => simp [intOf]; omega
                  · have HRG : Hid (rangeB n bk = false) := by
                      rw [Hid, Bool.eq_false_iff]
                      intro h
                      rcases rangeB_iff.1 h with h | h | ⟨z, hz, h⟩ | h
                      · have := HT.out.1; omega
                      · have := HT.out.2.1; omega
                      · obtain ⟨j, hj, rfl⟩ := List.getElem_of_mem hz
                        exact HM.out j hj (by omega) h
                      · have := HT.out.2.2; omega
                    obtain rfl : m = (bFrom bk).length := by omega
                    obtain ⟨W5, eW5⟩ : ∃ W5, W4.alloc (.cells #[.slice pl (bL bk).length cl, .slice pi_ (bInto bk).length ci] 25) = W5 := ⟨_, rfl⟩
                    obtain ⟨z5, hW5, m5⟩ := boxes1 eW5
                    have y0 := m5 0
                    have y1 := m5 1
                    simp only [List.getElem?_toArray, List.getElem?_cons_zero, List.getElem?_cons_succ] at y0 y1
                    have HY0 := Lib.hid y0
                    have HY1 := Lib.hid y1
                    have HB45 := Lib.hid hW5
                    have HB54 : Hid (Below w.heap.size w W5) := HB4.out.trans (hW5.mono HB4.out.size)
                    clear m5 hW5 z5 y0 y1 hmt
                    go_wp2
                    go_loopw [78] (fun i ws => ∃ (m : Nat) (wi : World), m ≤ 2 ∧ i = .int .i64 m ∧ wi = ws ∧ Hid (Below W5.heap.size W5 wi) ∧ Hid ((0 < m → labE l acts (bL bk) = 0) ∧ (1 < m → labE l acts (bInto bk) = 0))) (fun i _ => 2 - (intOf i).toNat)
                    case atStart => exact ⟨0, _, by omega, rfl, rfl, Below.refl _ _, fun h => absurd h (by omega), fun h => absurd h (by omega)⟩
                    case round =>
                      clear q2 q3 q4 q5 q6
                      obtain ⟨m, wi, hm, rfl, rfl, HBI, HM2⟩ := hrel
                      have hb4i : Below W4.heap.size W4 wi := HB45.out.trans (HBI.out.mono HB45.out.size)
                      obtain ⟨q2, q3, q4, q5, q6⟩ := HC4.out wi hb4i
                      have y0 := bkeptT HBI.out HY0.out
                      have y1 := bkeptT HBI.out HY1.out
                      have HVI := Lib.hid (HVW.out wi hb4i)
                      have HLI := Lib.hid (HLA.out.stays (keeps_of_below hb4i))
                      have HII := Lib.hid (HIN.out.stays (keeps_of_below hb4i))
                      have HB4I := Lib.hid hb4i
                      clear hb4i
                      match m, hm, HM2 with
                      | 0, _, HM2 =>
                        by_cases he : labErr l (bL bk) = 0
                        · have HE : Hid (labE l acts (bL bk) = 0) := by unfold Hid; rw [HLE.out]; exact he
                          go_wp2_with (fail)
                          refine (refLabel_calls l (bL bk) _ _ _ HVI.out HLI.out).mono ?_
                          rintro e w6 ⟨rfl, hb6⟩
                          rw [he]
                          have HB6 := Lib.hid (HBI.out.trans (hb6.mono HBI.out.size))
                          clear he hb6
                          go_wp2
                          go_roundw
                          case rel => exact ⟨1, _, by omega, by go_num, rfl, HB6, fun _ => HE.out, fun h => absurd h (by omega)⟩
                          case measure => simp [intOf]
                        · have he2 : labE l acts (bL bk) ≠ 0 := by rw [HLE.out]; exact he
                          have HE : Hid (solveE l acts n bs = labErr l (bL bk)) := by unfold Hid; rw [← HLE.out]; exact HERX.out _ (bndErr_lab HRG.out he2) he2
                          have hq : (labErr l (bL bk) != 0) = true := by simpa using he
                          have hq2 : (labErr l (bL bk) == 0) = false := by simpa using he
                          clear he he2
                          go_wp2_with (fail)
                          refine (refLabel_calls l (bL bk) _ _ _ HVI.out HLI.out).mono ?_
                          rintro e w6 ⟨rfl, hb6⟩
                          have HB6 := Lib.hid (HB54.out.trans ((HBI.out.trans (hb6.mono HBI.out.size)).mono HB54.out.size))
                          go_wp2
                          go_ret
                          exact ⟨by rw [HE.out]; rfl, HB6.out⟩
                      | 1, _, HM2 =>
                        have HE0 : Hid (labE l acts (bL bk) = 0) := HM2.out.1 (by omega)
                        by_cases he : labErr l (bInto bk) = 0
                        · have HE : Hid (labE l acts (bInto bk) = 0) := by unfold Hid; rw [HLE.out]; exact he
                          go_wp2_with (fail)
                          refine (refLabel_calls l (bInto bk) _ _ _ HVI.out HII.out).mono ?_
                          rintro e w6 ⟨rfl, hb6⟩
                          rw [he]
                          have HB6 := Lib.hid (HBI.out.trans (hb6.mono HBI.out.size))
                          clear he hb6
                          go_wp2
                          go_roundw
                          case rel => exact ⟨2, _, by omega, by go_num, rfl, HB6, fun _ => HE0.out, fun _ => HE.out⟩
                          case measure => simp [intOf]
                        · have he2 : labE l acts (bInto bk) ≠ 0 := by rw [HLE.out]; exact he
                          have HE : Hid (solveE l acts n bs = labErr l (bInto bk)) := by unfold Hid; rw [← HLE.out]; exact HERX.out _ (bndErr_into HRG.out HE0.out he2) he2
                          have hq : (labErr l (bInto bk) != 0) = true := by simpa using he
                          have hq2 : (labErr l (bInto bk) == 0) = false := by simpa using he
                          clear he he2
                          go_wp2_with (fail)
                          refine (refLabel_calls l (bInto bk) _ _ _ HVI.out HII.out).mono ?_
                          rintro e w6 ⟨rfl, hb6⟩
                          have HB6 := Lib.hid (HB54.out.trans ((HBI.out.trans (hb6.mono HBI.out.size)).mono HB54.out.size))
                          go_wp2
                          go_ret
                          exact ⟨by rw [HE.out]; rfl, HB6.out⟩
                      | 2, _, HM2 =>
                        have HE0 : Hid (labE l acts (bL bk) = 0) := HM2.out.1 (by omega)
                        have HEI : Hid (labE l acts (bInto bk) = 0) := HM2.out.2 (by omega)
                        have HBWI := Lib.hid (HB54.out.trans (HBI.out.mono HB54.out.size))
                        by_cases t6 : 6 < (bFor bk).length
                        · have HE : Hid (solveE l acts n bs = 2) := HERX.out 2 (bndErr_many HRG.out HE0.out HEI.out t6) (by decide)
                          have t6' : (6 : Int) < ((bFor bk).length : Int) := by omega
                          go_wp2
                          go_ret
                          exact ⟨by rw [HE.out]; rfl, HBWI.out⟩
                        · have t6' : ¬ (6 : Int) < ((bFor bk).length : Int) := by omega
                          have HWH := Lib.hid (bndErr_who HRG.out HE0.out HEI.out t6)
                          clear t6
                          go_wp2
                          go_loopw [96] (fun i ws => ∃ (f : Nat), f ≤ (bFor bk).length ∧ i = .int .i64 f ∧ Hid (ws = wi) ∧ Hid (∀ j (hj : j < (bFor bk).length), j < f → has l (bFor bk)[j] = true)) (fun i _ => (bFor bk).length - (intOf i).toNat)
                          case atStart => exact ⟨0, Nat.zero_le _, rfl, rfl, fun j _ hj => absurd hj (Nat.not_lt_zero _)⟩
                          case round =>
                            clear q2 q3 q4 q5 q6 y0 y1 t6'
                            obtain ⟨f, hf, rfl, HWI, HFF⟩ := hrel
                            have hwi := HWI.out.symm
                            subst hwi
                            obtain ⟨q2, q3, q4, q5, q6⟩ := HC4.out wi HB4I.out
                            by_cases hft : f < (bFor bk).length
                            · have g0 := HCO.out wi HB4I.out f hft
                              obtain rfl := HPO.out (by omega)
                              have HNO : Hid (has l (bFor bk)[f] = false → solveE l acts n bs = 5) := fun h => HERX.out 5 (by
                                rw [HWH.out, if_pos]
                                exact any_iff.2 ⟨_, List.getElem_mem hft, by rw [h]; rfl⟩) (by decide)
                              have HYES : Hid (has l (bFor bk)[f] = true → ∀ j (hj : j < (bFor bk).length), j < f + 1 → has l (bFor bk)[j] = true) := fun h0 j hj hj' => by
                                by_cases e : j = f
                                · subst e; exact h0
                                · exact HFF.out j hj (by omega)
                              generalize (bFor bk)[f] = z at *
                              cases hz : has l z with
                              | true =>
                                have HN := Lib.hid (HYES.out hz)
                                go_wp2_with (fail)
                                refine (contains_calls l z _ _ HVI.out).mono ?_
                                rintro e w7 ⟨rfl, rfl⟩
                                rw [hz]
                                clear hz
                                go_wp2
                                go_roundw
                                case rel => exact ⟨f + 1, by omega, by go_num, by first | exact trivial | exact rfl, HN⟩
                                case measure => simp [intOf]; omega
                              | false =>
                                have HE := Lib.hid (HNO.out hz)
                                go_wp2_with (fail)
                                refine (contains_calls l z _ _ HVI.out).mono ?_
                                rintro e w7 ⟨rfl, rfl⟩
                                rw [hz]
                                clear hz
                                go_wp2
                                go_ret
                                exact ⟨by rw [HE.out]; rfl, HBWI.out⟩
                            · have HE : Hid (bndErr l acts n bk = 0) := by
                                unfold Hid
                                rw [HWH.out, if_neg]
                                intro h
                                obtain ⟨s, hs, h2⟩ := any_iff.1 h
                                obtain ⟨j, hj, rfl⟩ := List.getElem_of_mem hs
                                rw [HFF.out j hj (by omega)] at h2
                                cases h2
                              go_wp2
                              go_roundw
                              case rel => exact ⟨k + 1, _, by omega, by go_num, rfl, HBWI, HNXT.out HE.out⟩
                              case measure => simp [intOf]; omega
        · have HF : Hid (bndsErr l acts n bs = 0) := bndsErr_zero.2 fun b hb => by
            obtain ⟨j, hj, rfl⟩ := List.getElem_of_mem hb
            exact HK.out j hj (by omega)
          clear HK hbw
          go_wp2
          go_ret
          exact ⟨by rw [HX.out, HF.out]; rfl, HBR.out⟩
  · have HX : Hid (solveE l acts n bs = checkC l acts) := by unfold Hid solveE; rw [if_pos hc]
    have hq : (checkC l acts != 0) = true := by simpa using hc
    have hq2 : (checkC l acts == 0) = false := by simpa using hc
    clear hc
    go_enter Tryz.func19, Tryz.ntmps19
    go_wp2_with (fail)
    refine HCK.out.mono ?_
    rintro e w1 ⟨rfl, hb1⟩
    go_wp2
    go_ret
    exact ⟨by rw [HX.out]; rfl, hb1⟩
end Go.Proofs.YtcgihpfanfbonaaGreatDoor
namespace Go.Proofs.YtcgihpfanfbonaaGreatDoor
open Go.RowKit Go.Maps
set_option linter.unusedVariables false
set_option linter.unusedSimpArgs false

theorem joins_take {q : Txt → Txt → Bool} {m : List Lab} {s : Lab} {ks : List Int} {i : Nat} (hi : i < ks.length) : joinsL q m s (ks.take (i + 1)) = joinL q (joinsL q m s (ks.take i)) (atL m ks[i]) := by
  unfold joinsL
  rw [List.take_succ_eq_append_getElem hi, List.foldl_append]
  rfl
theorem okLab_join {q : Txt → Txt → Bool} {a b : Lab} (ha : okLab a) (hb : okLab b) : okLab (joinL q a b) := okLab_norm (okLab_append ha hb)
theorem okLab_less {q : Txt → Txt → Bool} {a : Lab} (ha : okLab a) (by_ : List Txt) : okLab (lessL q a by_) := okLab_norm fun p hp => ha p (List.mem_filter.1 hp).1
theorem okLab_at {m : List Lab} (h : ∀ x ∈ m, okLab x) (k : Int) : okLab (atL m k) := by
  unfold atL
  cases e : m[k.toNat]? with
  | none => intro p hp; cases hp
  | some x => exact h x (List.mem_of_getElem? e)
theorem okLab_joins {q : Txt → Txt → Bool} {m : List Lab} (h : ∀ x ∈ m, okLab x) : ∀ (ks : List Int) {s : Lab}, okLab s → okLab (joinsL q m s ks)
  | [], _, hs => hs
  | k :: ks, _, hs => okLab_joins h ks (okLab_join hs (okLab_at h k))
/-- A right bound's labels so far are right. -/
theorem joins_right {l : List Txt} {acts : List (Txt × Txt)} {m : List Lab} (hc : checkC l acts = 0) (hr : RightM l m.length m) {s : Lab} (hs : RightL l s) (hs2 : s.length ≤ 200) (ks : List Int) : labE l acts (joinsL (mayB l acts) m s ks) = 0 ∧ RightL l (joinsL (mayB l acts) m s ks) := by
  have h1 := hr.joins (mayB l acts) ks s hs
  refine ⟨?_, h1⟩
  rcases List.eq_nil_or_concat ks with rfl | ⟨L, k, rfl⟩
  · exact labE_of hc (labErr_of hs2 hs)
  · have e : joinsL (mayB l acts) m s (L.concat k) = joinL (mayB l acts) (joinsL (mayB l acts) m s L) (atL m k) := by
      unfold joinsL
      rw [List.concat_eq_append, List.foldl_append]
      rfl
    rw [e]
    exact norm_right hc ((hr.joins _ L s hs).append (hr.at k)) _

set_option maxHeartbeats 4000000 in
set_option maxRecDepth 100000 in
theorem into_calls (l : List Txt) (acts : List (Txt × Txt)) (m : List Lab) (b : Bnd) (v u t x0 x1 x2 x3 x4 x5 : Value) (w : World) (hv : Strs w l v) (hu : Prs w acts u) (ht : Labs w m t) (hb : BndIs w b x0 x1 x2 x3 x4 x5)
    (hl : okList okTxt l) (hm : ∀ x ∈ m, okLab x) (hbL : okLab (bL b)) (hbF : okList okTxt (bFor b)) (hc : checkC l acts = 0) (hr : RightM l m.length m) (hm2 : ∀ x ∈ m, x.length ≤ 200) (hB : RightB l m.length b) :
    Calls Tryz.prog 55 #[v, u, t, .agg #[x0, x1, x2, x3, x4, x5]] w fun e w' => ∃ y, e = .returned y ∧ Lbl w' (intoL (mayB l acts) m b) y ∧ Below w.heap.size w w' := by
  obtain ⟨b0, o0, c0, p0, rfl, _⟩ := hv.cells
  obtain ⟨b1, o1, c1, p1, rfl, _⟩ := hu.cells
  obtain ⟨b2, o2, c2, p2, rfl, hlc2, hcm2, hp2, hcells2⟩ := ht.cells
  have hfr := hb.from_
  have hla := hb.lab
  have hto := hb.to
  have hin := hb.into
  have hat := hb.at_
  have hfo := hb.for_
  clear hb
  subst hto hat
  obtain ⟨bf, of_, cf, pf, rfl, hlcf, hcf, hpf, hcellsf⟩ := hfr.cells
  obtain ⟨bl, ol, cl, pl, rfl, _⟩ := hla.cells
  obtain ⟨bi, oi, ci, pi_, rfl, _⟩ := hin.cells
  obtain ⟨bo, oo, co, po, rfl, _⟩ := hfo.cells
  obtain ⟨W1, eW⟩ : ∃ W1, w.alloc (.cells #[.slice pf (bFrom b).length cf, .slice pl (bL b).length cl, .int .i64 (bTo b), .slice pi_ (bInto b).length ci, .int .i64 b.2.2.2.2.1, .slice po (bFor b).length co] 93) = W1 := ⟨_, rfl⟩
  obtain ⟨z1, hW, m1⟩ := boxes1 eW
  have j0 := m1 0
  have j1 := m1 1
  have j5 := m1 5
  simp only [List.getElem?_toArray, List.getElem?_cons_zero, List.getElem?_cons_succ] at j0 j1 j5
  have HW := Lib.hid hW
  have J5 := Lib.hid j5
  have HV := Lib.hid (hv.stays (keeps_of_below hW))
  have HU := Lib.hid (hu.stays (keeps_of_below hW))
  have HLA := Lib.hid (hla.stays (keeps_of_below hW))
  have HFO := Lib.hid (hfo.stays (keeps_of_below hW))
  have HC2 : Hid (∀ (i : Nat) (h : i < m.length), ∃ u, W1.cell? ⟨b2, o2 + i, none⟩ = some u ∧ Lbl W1 m[i] u) := fun i h => by
    obtain ⟨u, h1, h2⟩ := hcells2 i h
    exact ⟨u, (hW.cell (cell_lt h1)).trans h1, h2.stays (keeps_of_below hW)⟩
  have HCF : Hid (∀ (i : Nat) (h : i < (bFrom b).length), W1.cell? ⟨bf, of_ + i, none⟩ = some (.int .i64 (bFrom b)[i])) := fun i h => (hW.cell (cell_lt (hcellsf i h))).trans (hcellsf i h)
  have HP2 := Lib.hid hp2
  have HPF := Lib.hid hpf
  have HLC := Lib.hid hc
  have HRM := Lib.hid hr
  have HM2 := Lib.hid hm2
  have HOM := Lib.hid hm
  have HRB := Lib.hid hB
  have HOL := Lib.hid hbL
  clear m1 hW z1 hv hu ht hcells2 hp2 hcellsf hpf hfr hla hin hfo hc hr hm2 hm hB hbL
  go_enter Tryz.func55, Tryz.ntmps55
  go_wp2
  go_loopw [9, 17] (fun s i ws => ∃ (k : Nat) (wo : World) (sv : Value), k ≤ (bFrom b).length ∧ i = .int .i64 k ∧ wo = ws ∧ sv = s ∧ Below W1.heap.size W1 wo ∧ Hid (Lbl wo (joinsL (mayB l acts) m (bL b) ((bFrom b).take k)) sv)) (fun _ i _ => (bFrom b).length - (intOf i).toNat)
  case atStart => exact ⟨0, _, _, Nat.zero_le _, rfl, rfl, rfl, Below.refl _ _, HLA.out⟩
  case round =>
    clear j0 j1 j5
    obtain ⟨k, wo, sv, hk, rfl, rfl, rfl, hbr, HS⟩ := hrel
    have HBR := Lib.hid hbr
    have hs := HS.out
    obtain ⟨bs, os, cs, ps, rfl, _⟩ := hs.cells
    clear hs
    obtain ⟨r1, r2⟩ := joins_right (acts := acts) HLC.out HRM.out HRB.out.lab.1 HRB.out.lab.2 ((bFrom b).take k)
    have HR1 := Lib.hid r1
    have HOS : Hid (okLab (joinsL (mayB l acts) m (bL b) ((bFrom b).take k))) := okLab_joins HOM.out _ HOL.out
    clear r1 r2
    by_cases hlt : k < (bFrom b).length
    · have g0 := HCF.out k hlt
      have g0' : wo.cell? ⟨bf, of_ + k, none⟩ = some (.int .i64 (bFrom b)[k]) := (hbr.cell (cell_lt g0)).trans g0
      obtain rfl := HPF.out (by omega)
      obtain ⟨f1, f2⟩ := HRB.out.from_ _ (List.getElem_mem hlt)
      obtain ⟨z, hz⟩ : ∃ z : Nat, (bFrom b)[k] = z := ⟨(bFrom b)[k].toNat, by omega⟩
      have hzl : z < m.length := by omega
      have hat2 : atL m (bFrom b)[k] = m[z] := by unfold atL; rw [hz]; simp [hzl]
      have HJ : Hid (joinsL (mayB l acts) m (bL b) ((bFrom b).take (k + 1)) = joinL (mayB l acts) (joinsL (mayB l acts) m (bL b) ((bFrom b).take k)) m[z]) := by unfold Hid; rw [joins_take hlt, hat2]
      obtain ⟨uz, hz1, hz2⟩ := HC2.out z hzl
      have hz1' : wo.cell? ⟨b2, o2 + z, none⟩ = some uz := (hbr.cell (cell_lt hz1)).trans hz1
      obtain rfl := HP2.out (by omega)
      have hz3 := hz2.stays (keeps_of_below hbr)
      obtain ⟨bz, oz, cz, pz, rfl, _⟩ := hz3.cells
      have e2 : labE l acts m[z] = 0 := labE_of HLC.out (labErr_of (HM2.out _ (List.getElem_mem hzl)) (HRM.out.right _ (List.getElem_mem hzl)))
      have HE : Hid (flowsE l acts (joinsL (mayB l acts) m (bL b) ((bFrom b).take k)) m[z] = 0) := flowsE_of HR1.out e2
      have HZ3 := Lib.hid hz3
      have HJR : Hid (joinR l acts (joinsL (mayB l acts) m (bL b) ((bFrom b).take k)) m[z] = joinL (mayB l acts) (joinsL (mayB l acts) m (bL b) ((bFrom b).take k)) m[z]) := by unfold Hid joinR; rw [if_pos HE.out]
      have HOZ : Hid (okLab m[z]) := HOM.out _ (List.getElem_mem hzl)
      rw [hz] at g0'
      have hzl' : (z : Int) < (m.length : Int) := by omega
      clear f1 f2 hz hat2 hz1 hz2 hz3 e2 g0 hbr
      go_wp2_with (fail)
      refine (join_lab_calls l acts _ m[z] _ _ _ _ _ (HV.out.stays (keeps_of_below HBR.out)) (HU.out.stays (keeps_of_below HBR.out)) HS.out HZ3.out hl HOS.out HOZ.out).mono ?_
      rintro e w5 ⟨y, rfl, hy, hb5⟩
      rw [HE.out]
      rw [HJR.out] at hy
      obtain ⟨by_, oy, cy, py, rfl, _⟩ := hy.cells
      have HY := Lib.hid hy
      have HB5 := Lib.hid (HBR.out.trans (hb5.mono HBR.out.size))
      clear hy hb5
      go_wp2
      go_roundw
      case rel => exact ⟨k + 1, _, _, by omega, by go_num, rfl, rfl, HB5.out, by unfold Hid; rw [HJ.out]; exact HY.out⟩
      case measure => simp [intOf]; omega
    · obtain rfl : k = (bFrom b).length := by omega
      have hq5 : wo.cell? ⟨w.heap.size, 5, none⟩ = some (.slice po (bFor b).length co) := (hbr.cell (cell_lt J5.out)).trans J5.out
      have hJ : joinsL (mayB l acts) m (bL b) ((bFrom b).take (bFrom b).length) = joinsL (mayB l acts) m (bL b) (bFrom b) := by rw [List.take_length]
      rw [hJ] at HS HR1 HOS ⊢
      have HE : Hid (lessE l acts (joinsL (mayB l acts) m (bL b) (bFrom b)) (bFor b) = 0) := lessE_of HR1.out HRB.out.for_.1 HRB.out.for_.2
      have HLR : Hid (lessR l acts (joinsL (mayB l acts) m (bL b) (bFrom b)) (bFor b) = intoL (mayB l acts) m b) := by unfold Hid lessR; rw [if_pos HE.out]; rfl
      clear hbr hJ
      go_wp2_with (fail)
      refine (less_calls l acts _ (bFor b) _ _ _ _ _ (HV.out.stays (keeps_of_below HBR.out)) (HU.out.stays (keeps_of_below HBR.out)) HS.out (HFO.out.stays (keeps_of_below HBR.out)) hl HOS.out hbF).mono ?_
      rintro e w5 ⟨y, rfl, hy, hb5⟩
      rw [HE.out]
      rw [HLR.out] at hy
      obtain ⟨by_, oy, cy, py, rfl, _⟩ := hy.cells
      have HY := Lib.hid hy
      have HB5 : Hid (Below w.heap.size w w5) := HW.out.trans ((HBR.out.trans (hb5.mono HBR.out.size)).mono HW.out.size)
      clear hy hb5
      go_wp2
      go_ret
      exact ⟨_, rfl, HY.out, HB5.out⟩
end Go.Proofs.YtcgihpfanfbonaaGreatDoor
namespace Go.Proofs.YtcgihpfanfbonaaGreatDoor
open Go.RowKit Go.Maps
set_option linter.unusedVariables false
set_option linter.unusedSimpArgs false

/-- A row that holds slices. -/
structure RowSl (w : World) (g : Nat) (t : TypeId) (n : Nat) (f : Nat → Value) : Prop where
  row : w.rowIs g t n f
  sl : ∀ i, i < n → ∃ p a c, f i = .slice p a c
theorem RowSl.cell {w : World} {g : Nat} {t : TypeId} {n : Nat} {f : Nat → Value} (h : RowSl w g t n f) {o : Nat} {v : Value} (hv : w.cell? ⟨g, o, none⟩ = some v) : ∃ p a c, v = .slice p a c := by
  obtain ⟨c, hb, hn, hc⟩ := h.row
  have e : c[o]? = some v := by simpa [World.cell?, hb] using hv
  obtain ⟨hlt, _⟩ := Array.getElem?_eq_some_iff.1 e
  rw [hc o (by omega)] at e
  cases e
  exact h.sl o (by omega)
theorem setRow_cell {w : World} {g i b o : Nat} {x : Value} (h : b ≠ g) : (w.setCell ⟨g, i, none⟩ x).cell? ⟨b, o, none⟩ = w.cell? ⟨b, o, none⟩ :=
  World.cell?_setCell_other _ _ _ _ (fun e => by have := congrArg Addr.block e; simp at this; omega)
theorem Strs.setRow {w : World} {g : Nat} {t : TypeId} {n : Nat} {f : Nat → Value} (hr : RowSl w g t n f) {l : List Txt} {v : Value} (h : Strs w l v) (i : Nat) (x : Value) : Strs (w.setCell ⟨g, i, none⟩ x) l v := by
  obtain ⟨p, c, e, h1, h2, h3⟩ := h
  refine ⟨p, c, e, h1, h2, ?_⟩
  rcases h3 with h3 | ⟨b, o, hp, h3⟩
  · exact .inl h3
  · refine .inr ⟨b, o, hp, fun j hj => ?_⟩
    obtain ⟨vs, g1, g2, g3⟩ := h3 j hj
    have g1' : vs = [.string l[j]] := g1
    subst g1'
    have g0 := g3 0 _ rfl
    have hne : b ≠ g := by
      rintro rfl
      obtain ⟨_, _, _, e⟩ := hr.cell g0
      cases e
    exact ⟨_, rfl, g2, fun k y hy => by rw [setRow_cell hne]; exact g3 k y hy⟩
theorem Lbl.setRow {w : World} {g : Nat} {t : TypeId} {n : Nat} {f : Nat → Value} (hr : RowSl w g t n f) {l : Lab} {v : Value} (h : Lbl w l v) (i : Nat) (x : Value) : Lbl (w.setCell ⟨g, i, none⟩ x) l v := by
  obtain ⟨p, c, e, h1, h2, h3⟩ := h
  refine ⟨p, c, e, h1, h2, ?_⟩
  rcases h3 with h3 | ⟨b, o, hp, h3⟩
  · exact .inl h3
  · refine .inr ⟨b, o, hp, fun j hj => ?_⟩
    obtain ⟨vs, ⟨us, us', e0, e1, ⟨v', e2, hs⟩⟩, g2, g3⟩ := h3 j hj
    have e1' : us = [.string l[j].1] := e1
    subst e1' e2 e0
    have g0 := g3 0 _ rfl
    have hne : b ≠ g := by
      rintro rfl
      obtain ⟨_, _, _, e⟩ := hr.cell g0
      cases e
    exact ⟨_, ⟨_, _, rfl, rfl, ⟨v', rfl, Strs.setRow hr hs i x⟩⟩, g2, fun k y hy => by rw [setRow_cell hne]; exact g3 k y hy⟩
/-- The labels that are looked for, in such a row. -/
structure Outs (w : World) (g : Nat) (t : TypeId) (n : Nat) (m : List Lab) (f : Nat → Value) : Prop where
  row : w.rowIs g t n f
  len : m.length = n
  labs : ∀ k (hk : k < m.length), Lbl w m[k] (f k)
section
variable {w w' : World} {g : Nat} {t : TypeId} {n : Nat} {m : List Lab} {f : Nat → Value}
theorem Outs.sl (h : Outs w g t n m f) : RowSl w g t n f := ⟨h.row, fun i hi => by
  obtain ⟨p, c, e, _⟩ := h.labs i (by rw [h.len]; exact hi)
  exact ⟨p, _, c, e⟩⟩
theorem Outs.below (h : Outs w g t n m f) (hb : Below w.heap.size w w') : Outs w' g t n m f := ⟨h.row.of_block (hb.block g h.row.lt), h.len, fun k hk => (h.labs k hk).stays (keeps_of_below hb)⟩
theorem Outs.set (h : Outs w g t n m f) {k : Nat} {x : Lab} {v : Value} (hx : Lbl w x v) : Outs (w.setCell ⟨g, k, none⟩ v) g t n (m.set k x) (fun j => if j = k then v else f j) := by
  refine ⟨h.row.set k v, by rw [List.length_set, h.len], fun j hj => ?_⟩
  rw [List.getElem_set]
  by_cases e : k = j
  · subst e
    rw [if_pos rfl, if_pos rfl]
    exact Lbl.setRow h.sl hx k v
  · rw [if_neg e, if_neg (fun e2 => e e2.symm)]
    exact Lbl.setRow h.sl (h.labs j (by simpa using hj)) k v
theorem Outs.labels (h : Outs w g t n m f) (hn : n ≤ 400) : Labs w m (.slice (some ⟨g, 0, none⟩) n n) := by
  refine ⟨some ⟨g, 0, none⟩, n, by rw [h.len], by rw [h.len]; exact Nat.le_refl _, by unfold maxLen; omega, .inr ⟨g, 0, rfl, fun i hi => ⟨[f i], ⟨f i, rfl, h.labs i hi⟩, rfl, fun j x hx => ?_⟩⟩⟩
  match j, hx with
  | 0, hx =>
    simp at hx; subst hx
    simpa using h.row.cell (by have := h.len; omega)
  | j + 1, hx => simp at hx
theorem Outs.start (w : World) (n : Nat) (t : TypeId) : Outs (w.alloc (.cells (madeCells #[.slice none 0 0] n) t)) w.heap.size t n (List.replicate n []) (fun _ => .slice none 0 0) :=
  ⟨World.rowIs_made w _ n _, by simp, fun k hk => by
    have : (List.replicate n ([] : Lab))[k] = [] := by simp
    rw [this]
    exact nilL _⟩
theorem Outs.cell (h : Outs w g t n m f) {k : Nat} (hk : k < n) : w.cell? ⟨g, k, none⟩ = some (f k) := h.row.cell hk
end
end Go.Proofs.YtcgihpfanfbonaaGreatDoor
namespace Go.Proofs.YtcgihpfanfbonaaGreatDoor
open Go.RowKit Go.Maps
set_option linter.unusedVariables false
set_option linter.unusedSimpArgs false

set_option maxHeartbeats 8000000 in
set_option maxRecDepth 100000 in
theorem solveCheck_calls (l : List Txt) (acts : List (Txt × Txt)) (n : Int) (bs : List Bnd) (v u t : Value) (w : World) (hv : Strs w l v) (hu : Prs w acts u) (ht : Bnds w bs t) :
    Calls Tryz.prog 54 #[v, u, .int .i64 n, t] w fun e w' => e = .returned (.int .i64 (solveE l acts n bs)) ∧ Below w.heap.size w w' := by
  obtain ⟨b0, o0, c0, p0, rfl, _⟩ := hv.cells
  obtain ⟨b1, o1, c1, p1, rfl, _⟩ := hu.cells
  obtain ⟨b2, o2, c2, p2, rfl, hlc2, hcm2, hp2, hcells2⟩ := ht.cells
  have i0 : ∀ x y (w : World), (Instr.index 65 (.agg #[x, y]) (.int .i64 0)).run Tryz.prog w = .ok x w := fun _ _ _ => by kernel_rfl
  have i1 : ∀ x y (w : World), (Instr.index 65 (.agg #[x, y]) (.int .i64 1)).run Tryz.prog w = .ok y w := fun _ _ _ => by kernel_rfl
  obtain ⟨W2, eW⟩ : ∃ W2, (w.alloc (.cells #[.slice p0 l.length c0] 22)).alloc (.cells #[.int .i64 n] 3) = W2 := ⟨_, rfl⟩
  obtain ⟨z2, hW, m1, m2⟩ := boxes2 eW
  have h10 := m1 0
  have h20 := m2 0
  simp only [List.getElem?_toArray, List.getElem?_cons_zero] at h10 h20
  have HW := Lib.hid hW
  have H10 := Lib.hid h10
  have H20 := Lib.hid h20
  have HV := Lib.hid (hv.stays (keeps_of_below hW))
  have HU := Lib.hid (hu.stays (keeps_of_below hW))
  have HCE := Lib.hid hcells2
  have HPP := Lib.hid hp2
  have KEEP : Hid (∀ W, Below W2.heap.size W2 W → Below w.heap.size w W) := fun W h => HW.out.trans (h.mono HW.out.size)
  have eg1 : ∀ args w, (callFunc 85 args).run Tryz.prog w = .ok (.enter 85 args) w := enters_at Tryz.func85 (by kernel_rfl) rfl
  have eg2 : ∀ args w, (callFunc 86 args).run Tryz.prog w = .ok (.enter 86 args) w := enters_at Tryz.func86 (by kernel_rfl) rfl
  have HE1 := Lib.hid eg1
  have HE2 := Lib.hid eg2
  clear m1 m2 hW z2 hv hu ht hcells2 hp2 eg1 eg2
  by_cases hc : checkC l acts = 0
  · have HC := Lib.hid hc
    have HCK := Lib.hid (check_calls l acts _ _ W2 HV.out HU.out)
    by_cases hbad : n < 0 ∨ 400 < n ∨ 400 < bs.length
    · have HX : Hid (solveE l acts n bs = 2) := by unfold Hid solveE; rw [if_neg (by omega), if_pos hbad]
      by_cases g1 : n < 0
      · clear hbad hc i0 i1
        go_enter Tryz.func54, Tryz.ntmps54
        go_wp2_with (fail)
        refine HCK.out.mono ?_
        rintro e w1 ⟨rfl, hb1⟩
        rw [HC.out]
        have f1 : w1.cell? ⟨w.heap.size + 1, 0, none⟩ = some (.int .i64 n) := (hb1.cell (cell_lt H20.out)).trans H20.out
        go_wp2
        go_ret
        exact ⟨by rw [HX.out]; rfl, KEEP.out _ hb1⟩
      · by_cases g2 : 400 < n
        · clear hbad hc i0 i1
          go_enter Tryz.func54, Tryz.ntmps54
          go_wp2_with (fail)
          refine HCK.out.mono ?_
          rintro e w1 ⟨rfl, hb1⟩
          rw [HC.out]
          have f1 : w1.cell? ⟨w.heap.size + 1, 0, none⟩ = some (.int .i64 n) := (hb1.cell (cell_lt H20.out)).trans H20.out
          go_wp2
          go_ret
          exact ⟨by rw [HX.out]; rfl, KEEP.out _ hb1⟩
        · have g3 : (400 : Int) < (bs.length : Int) := by omega
          clear hbad hc i0 i1
          go_enter Tryz.func54, Tryz.ntmps54
          go_wp2_with (fail)
          refine HCK.out.mono ?_
          rintro e w1 ⟨rfl, hb1⟩
          rw [HC.out]
          have f1 : w1.cell? ⟨w.heap.size + 1, 0, none⟩ = some (.int .i64 n) := (hb1.cell (cell_lt H20.out)).trans H20.out
          go_wp2
          go_ret
          exact ⟨by rw [HX.out]; rfl, KEEP.out _ hb1⟩
    · have HX : Hid (solveE l acts n bs = bndsErr l acts n bs) := by unfold Hid solveE; rw [if_neg (by omega), if_neg hbad]
      have g1 : ¬ n < 0 := by omega
      have g2 : ¬ 400 < n := by omega
      have g3 : ¬ (400 : Int) < (bs.length : Int) := by omega
      clear hbad hc
      go_enter Tryz.func54, Tryz.ntmps54
      go_wp2_with (fail)
      refine HCK.out.mono ?_
      rintro e w1 ⟨rfl, hb1⟩
      rw [HC.out]
      have f1 : w1.cell? ⟨w.heap.size + 1, 0, none⟩ = some (.int .i64 n) := (hb1.cell (cell_lt H20.out)).trans H20.out
      have HB1 := Lib.hid hb1
      clear hb1
      go_wp2
      go_loopw [34] (fun i ws => ∃ (k : Nat) (wo : World), k ≤ bs.length ∧ i = .int .i64 k ∧ wo = ws ∧ Below W2.heap.size W2 wo ∧ Hid (∀ j (hj : j < bs.length), j < k → bndErr l acts n bs[j] = 0)) (fun i _ => bs.length - (intOf i).toNat)
      case atStart => exact ⟨0, _, Nat.zero_le _, rfl, rfl, HB1.out, fun j _ hj => absurd hj (Nat.not_lt_zero _)⟩
      case round =>
        clear f1 g1 g2 g3
        obtain ⟨k, wo, hk, rfl, rfl, hbr, HK⟩ := hrel
        by_cases hlt : k < bs.length
        · obtain ⟨x0, x1, x2, x3, x4, x5, his, e0, e1, e2, e3, e4, e5⟩ := HCE.out k hlt
          obtain rfl := HPP.out (by omega)
          have hbw := KEEP.out _ hbr
          have his' := his.stays (keeps_of_below hbw)
          have k0 : wo.cell? ⟨b2, o2 + k * 6, none⟩ = some x0 := (hbw.cell (cell_lt e0)).trans e0
          have k1 : wo.cell? ⟨b2, o2 + k * 6 + 1, none⟩ = some x1 := (hbw.cell (cell_lt e1)).trans e1
          have k2 : wo.cell? ⟨b2, o2 + k * 6 + 2, none⟩ = some x2 := (hbw.cell (cell_lt e2)).trans e2
          have k3 : wo.cell? ⟨b2, o2 + k * 6 + 3, none⟩ = some x3 := (hbw.cell (cell_lt e3)).trans e3
          have k4 : wo.cell? ⟨b2, o2 + k * 6 + 4, none⟩ = some x4 := (hbw.cell (cell_lt e4)).trans e4
          have k5 : wo.cell? ⟨b2, o2 + k * 6 + 5, none⟩ = some x5 := (hbw.cell (cell_lt e5)).trans e5
          have hfr := his'.from_
          have hla := his'.lab
          have hto := his'.to
          have hin := his'.into
          have hat := his'.at_
          have hfo := his'.for_
          clear his his' e0 e1 e2 e3 e4 e5
          subst hto hat
          obtain ⟨bf, of_, cf, pf, rfl, _, hcf, _⟩ := hfr.cells
          obtain ⟨bl, ol, cl, pl, rfl, _⟩ := hla.cells
          obtain ⟨bi, oi, ci, pi_, rfl, _⟩ := hin.cells
          obtain ⟨bo, oo, co, po, rfl, _⟩ := hfo.cells
          obtain ⟨W4, eW4⟩ : ∃ W4, wo.alloc (.cells #[.slice pf (bFrom bs[k]).length cf, .slice pl (bL bs[k]).length cl, .int .i64 (bTo bs[k]), .slice pi_ (bInto bs[k]).length ci, .int .i64 bs[k].2.2.2.2.1, .slice po (bFor bs[k]).length co] 93) = W4 := ⟨_, rfl⟩
          obtain ⟨z4, hW4, m4⟩ := boxes1 eW4
          have j0 := m4 0
          have j1 := m4 1
          have j2 := m4 2
          have j3 := m4 3
          have j4 := m4 4
          have j5 := m4 5
          simp only [List.getElem?_toArray, List.getElem?_cons_zero, List.getElem?_cons_succ] at j0 j1 j2 j3 j4 j5
          have HB4 := Lib.hid (hbr.trans (hW4.mono hbr.size))
          have HFR := Lib.hid (hfr.stays (keeps_of_below hW4))
          have HLA := Lib.hid (hla.stays (keeps_of_below hW4))
          have HIN := Lib.hid (hin.stays (keeps_of_below hW4))
          have HFO := Lib.hid (hfo.stays (keeps_of_below hW4))
          have HER : Hid (∀ e, bndErr l acts n bs[k] = e → e ≠ 0 → solveE l acts n bs = e) := fun e he hne => by rw [HX.out, bndsErr_at hlt (by rw [he]; exact hne) HK.out, he]
          have HC4 : Hid (∀ W, Below W4.heap.size W4 W → W.cell? ⟨w.heap.size, 0, none⟩ = some (.slice p0 l.length c0) ∧ W.cell? ⟨w.heap.size + 1, 0, none⟩ = some (.int .i64 n) ∧ W.cell? ⟨wo.heap.size, 0, none⟩ = some (.slice pf (bFrom bs[k]).length cf) ∧ W.cell? ⟨wo.heap.size, 1, none⟩ = some (.slice pl (bL bs[k]).length cl) ∧
              W.cell? ⟨wo.heap.size, 2, none⟩ = some (.int .i64 (bTo bs[k])) ∧ W.cell? ⟨wo.heap.size, 3, none⟩ = some (.slice pi_ (bInto bs[k]).length ci) ∧ W.cell? ⟨wo.heap.size, 5, none⟩ = some (.slice po (bFor bs[k]).length co)) := fun W hb => by
            have hb2 : Below W2.heap.size W2 W := HB4.out.trans (hb.mono HB4.out.size)
            exact ⟨(hb2.cell (cell_lt H10.out)).trans H10.out, (hb2.cell (cell_lt H20.out)).trans H20.out, (hb.cell (cell_lt j0)).trans j0, (hb.cell (cell_lt j1)).trans j1, (hb.cell (cell_lt j2)).trans j2, (hb.cell (cell_lt j3)).trans j3, (hb.cell (cell_lt j5)).trans j5⟩
          have HCI := Lib.hid (containsInt_calls (bFrom bs[k]) _ 85 #[.pointer (some ⟨w.heap.size + 1, 0, none⟩)] (fun j => decide (j < 0 ∨ n ≤ j)) W4 HFR.out HE1.out fun j hj W hb => checkN_calls j n (w.heap.size + 1) W ((hb.cell (cell_lt (HC4.out W4 (Below.refl _ _)).2.1)).trans (HC4.out W4 (Below.refl _ _)).2.1))
          obtain ⟨q0, q1, q2, q3, q4, q5, q6⟩ := HC4.out W4 (Below.refl _ _)
          clear m4 hW4 z4 hfr hla hin hfo j0 j1 j2 j3 j4 j5 hbr hbw
          by_cases t1 : bTo bs[k] < -1
          · have HE : Hid (solveE l acts n bs = 3) := HER.out 3 (bndErr_range (rangeB_iff.2 (.inl t1))) (by decide)
            go_wp2
            go_ret
            exact ⟨by rw [HE.out]; rfl, KEEP.out _ HB4.out⟩
          · by_cases t2 : n ≤ bTo bs[k]
            · have HE : Hid (solveE l acts n bs = 3) := HER.out 3 (bndErr_range (rangeB_iff.2 (.inr (.inl t2)))) (by decide)
              go_wp2
              go_ret
              exact ⟨by rw [HE.out]; rfl, KEEP.out _ HB4.out⟩
            · cases t3 : (anyBy (bFrom bs[k]) fun j => decide (j < 0 ∨ n ≤ j)) with
              | true =>
                have HE : Hid (solveE l acts n bs = 3) := HER.out 3 (bndErr_range (by unfold rangeB; rw [t3]; simp)) (by decide)
                rw [t3] at HCI
                clear t3
                go_wp2_with (fail)
                refine HCI.out.mono ?_
                rintro e w5 ⟨rfl, hb5⟩
                go_wp2
                go_ret
                exact ⟨by rw [HE.out]; rfl, KEEP.out _ (HB4.out.trans (hb5.mono HB4.out.size))⟩
              | false =>
                by_cases t4 : 400 < (bFrom bs[k]).length
                · have HE : Hid (solveE l acts n bs = 3) := HER.out 3 (bndErr_range (by unfold rangeB; rw [decide_eq_true t4]; simp)) (by decide)
                  have t4' : (400 : Int) < ((bFrom bs[k]).length : Int) := by omega
                  rw [t3] at HCI
                  clear t3 t4
                  go_wp2_with (fail)
                  refine HCI.out.mono ?_
                  rintro e w5 ⟨rfl, hb5⟩
                  have HB5 := Lib.hid hb5
                  clear q0 q1 q2 q3 q4 q5 q6
                  obtain ⟨q0, q1, q2, q3, q4, q5, q6⟩ := HC4.out w5 hb5
                  clear hb5
                  go_wp2
                  go_ret
                  exact ⟨by rw [HE.out]; rfl, KEEP.out _ (HB4.out.trans (HB5.out.mono HB4.out.size))⟩
                · have hrg : rangeB n bs[k] = false := by
                    unfold rangeB
                    rw [t3]
                    simp [t1, t2, t4]
                  have HRG := Lib.hid hrg
                  have t4' : ¬ (400 : Int) < ((bFrom bs[k]).length : Int) := by omega
                  rw [t3] at HCI
                  clear t3 t4 hrg
                  go_wp2_with (fail)
                  refine HCI.out.mono ?_
                  rintro e w5 ⟨rfl, hb5⟩
                  have HB5 := Lib.hid hb5
                  clear q0 q1 q2 q3 q4 q5 q6
                  obtain ⟨q0, q1, q2, q3, q4, q5, q6⟩ := HC4.out w5 hb5
                  clear hb5
                  go_wp2
                  go_loopw [64] (fun i ws => ∃ (m : Nat) (wi : World), m ≤ 2 ∧ i = .int .i64 m ∧ wi = ws ∧ Below W4.heap.size W4 wi ∧ Hid ((0 < m → labE l acts (bL bs[k]) = 0) ∧ (1 < m → labE l acts (bInto bs[k]) = 0))) (fun i _ => 2 - (intOf i).toNat)
                  case atStart => exact ⟨0, _, by omega, rfl, rfl, HB5.out, fun h => absurd h (by omega), fun h => absurd h (by omega)⟩
                  case round =>
                    clear q0 q1 q2 q3 q4 q5 q6
                    obtain ⟨m, wi, hm, rfl, rfl, hbi, HM⟩ := hrel
                    obtain ⟨q0, q1, q2, q3, q4, q5, q6⟩ := HC4.out wi hbi
                    have HBI := Lib.hid hbi
                    have hk24 : Keeps W2 wi := keeps_of_below (HB4.out.trans (hbi.mono HB4.out.size))
                    have HVI := Lib.hid (HV.out.stays hk24)
                    have HUI := Lib.hid (HU.out.stays hk24)
                    have HLI := Lib.hid (HLA.out.stays (keeps_of_below hbi))
                    have HII := Lib.hid (HIN.out.stays (keeps_of_below hbi))
                    have HFI := Lib.hid (HFO.out.stays (keeps_of_below hbi))
                    clear hbi hk24
                    match m, hm, HM with
                    | 0, _, HM =>
                      by_cases he : labE l acts (bL bs[k]) = 0
                      · have HE := Lib.hid he
                        go_wp2_with (fail)
                        refine (labCheck_calls l acts (bL bs[k]) _ _ _ _ HVI.out HUI.out HLI.out).mono ?_
                        rintro e w6 ⟨rfl, hb6⟩
                        rw [he]
                        clear he
                        go_wp2
                        go_roundw
                        case rel => exact ⟨1, _, by omega, by go_num, rfl, HBI.out.trans (hb6.mono HBI.out.size), fun _ => HE.out, fun h => absurd h (by omega)⟩
                        case measure => simp [intOf]
                      · have HE : Hid (solveE l acts n bs = labE l acts (bL bs[k])) := HER.out _ (bndErr_lab HRG.out he) he
                        have hq : (labE l acts (bL bs[k]) != 0) = true := by simpa using he
                        have hq2 : (labE l acts (bL bs[k]) == 0) = false := by simpa using he
                        clear he
                        go_wp2_with (fail)
                        refine (labCheck_calls l acts (bL bs[k]) _ _ _ _ HVI.out HUI.out HLI.out).mono ?_
                        rintro e w6 ⟨rfl, hb6⟩
                        have HB6 := Lib.hid (KEEP.out _ (HB4.out.trans ((HBI.out.trans (hb6.mono HBI.out.size)).mono HB4.out.size)))
                        go_wp2
                        go_ret
                        exact ⟨by rw [HE.out]; rfl, HB6.out⟩
                    | 1, _, HM =>
                      have HE0 : Hid (labE l acts (bL bs[k]) = 0) := HM.out.1 (by omega)
                      by_cases he : labE l acts (bInto bs[k]) = 0
                      · have HE := Lib.hid he
                        go_wp2_with (fail)
                        refine (labCheck_calls l acts (bInto bs[k]) _ _ _ _ HVI.out HUI.out HII.out).mono ?_
                        rintro e w6 ⟨rfl, hb6⟩
                        rw [he]
                        clear he
                        go_wp2
                        go_roundw
                        case rel => exact ⟨2, _, by omega, by go_num, rfl, HBI.out.trans (hb6.mono HBI.out.size), fun _ => HE0.out, fun _ => HE.out⟩
                        case measure => simp [intOf]
                      · have HE : Hid (solveE l acts n bs = labE l acts (bInto bs[k])) := HER.out _ (bndErr_into HRG.out HE0.out he) he
                        have hq : (labE l acts (bInto bs[k]) != 0) = true := by simpa using he
                        have hq2 : (labE l acts (bInto bs[k]) == 0) = false := by simpa using he
                        clear he
                        go_wp2_with (fail)
                        refine (labCheck_calls l acts (bInto bs[k]) _ _ _ _ HVI.out HUI.out HII.out).mono ?_
                        rintro e w6 ⟨rfl, hb6⟩
                        have HB6 := Lib.hid (KEEP.out _ (HB4.out.trans ((HBI.out.trans (hb6.mono HBI.out.size)).mono HB4.out.size)))
                        go_wp2
                        go_ret
                        exact ⟨by rw [HE.out]; rfl, HB6.out⟩
                    | 2, _, HM =>
                      have HE0 : Hid (labE l acts (bL bs[k]) = 0) := HM.out.1 (by omega)
                      have HEI : Hid (labE l acts (bInto bs[k]) = 0) := HM.out.2 (by omega)
                      by_cases t6 : 6 < (bFor bs[k]).length
                      · have HE : Hid (solveE l acts n bs = 2) := HER.out 2 (bndErr_many HRG.out HE0.out HEI.out t6) (by decide)
                        have t6' : (6 : Int) < ((bFor bs[k]).length : Int) := by omega
                        have HB6 := Lib.hid (KEEP.out _ (HB4.out.trans (HBI.out.mono HB4.out.size)))
                        go_wp2
                        go_ret
                        exact ⟨by rw [HE.out]; rfl, HB6.out⟩
                      · have t6' : ¬ (6 : Int) < ((bFor bs[k]).length : Int) := by omega
                        have HCF := Lib.hid (containsFunc_calls (bFor bs[k]) _ 86 #[.pointer (some ⟨w.heap.size, 0, none⟩)] (fun s => !has l s) wi HFI.out HE2.out fun s hs W hb => checkS_calls l s _ w.heap.size W (HVI.out.stays (keeps_of_below hb)) ((hb.cell (cell_lt q0)).trans q0))
                        have HWH := Lib.hid (bndErr_who HRG.out HE0.out HEI.out t6)
                        clear t6
                        cases t7 : anyBy (bFor bs[k]) fun s => !has l s with
                        | true =>
                          have HE : Hid (solveE l acts n bs = 5) := HER.out 5 (by rw [HWH.out, t7]; rfl) (by decide)
                          rw [t7] at HCF
                          clear t7
                          go_wp2_with (fail)
                          refine HCF.out.mono ?_
                          rintro e w6 ⟨rfl, hb6⟩
                          have HB6 := Lib.hid (KEEP.out _ (HB4.out.trans ((HBI.out.trans (hb6.mono HBI.out.size)).mono HB4.out.size)))
                          go_wp2
                          go_ret
                          exact ⟨by rw [HE.out]; rfl, HB6.out⟩
                        | false =>
                          have HE : Hid (bndErr l acts n bs[k] = 0) := by unfold Hid; rw [HWH.out, t7]; rfl
                          rw [t7] at HCF
                          clear t7
                          go_wp2_with (fail)
                          refine HCF.out.mono ?_
                          rintro e w6 ⟨rfl, hb6⟩
                          have HB6 := Lib.hid (HB4.out.trans ((HBI.out.trans (hb6.mono HBI.out.size)).mono HB4.out.size))
                          go_wp2
                          go_roundw
                          case rel =>
                            refine ⟨k + 1, _, by omega, by go_num, rfl, HB6.out, fun j hj hj' => ?_⟩
                            by_cases e : j = k
                            · subst e; exact HE.out
                            · exact HK.out j hj (by omega)
                          case measure => simp [intOf]; omega
        · have HF : Hid (bndsErr l acts n bs = 0) := bndsErr_zero.2 fun b hb => by
            obtain ⟨j, hj, rfl⟩ := List.getElem_of_mem hb
            exact HK.out j hj (by omega)
          have HBR := Lib.hid (KEEP.out _ hbr)
          clear hbr HK
          go_wp2
          go_ret
          exact ⟨by rw [HX.out, HF.out]; rfl, HBR.out⟩
  · have HX : Hid (solveE l acts n bs = checkC l acts) := by unfold Hid solveE; rw [if_pos hc]
    have HCK := Lib.hid (check_calls l acts _ _ W2 HV.out HU.out)
    have hq : (checkC l acts != 0) = true := by simpa using hc
    have hq2 : (checkC l acts == 0) = false := by simpa using hc
    clear hc i0 i1
    go_enter Tryz.func54, Tryz.ntmps54
    go_wp2_with (fail)
    refine HCK.out.mono ?_
    rintro e w1 ⟨rfl, hb1⟩
    go_wp2
    go_ret
    exact ⟨by rw [HX.out]; rfl, KEEP.out _ hb1⟩
end Go.Proofs.YtcgihpfanfbonaaGreatDoor
