/-
  cloisterlaw.ChiefLeast: the call returns true.
-/
import Derived.Test.YtfbieagkhbmgjaaDoorChiefed
import Derived.Test.YtfbieagkhbmgjaaDoorRefC
import Derived.Test.YtfbieagkhbmgjaaDoorRefA
import Derived.Test.YtfbieagkhbmgjaaDoorLeastL
import Derived.Test.YtfbieagkhbmgjaaDoorFuncs
import Derived.Maps.AppendAt
import Derived.Laws.EntriesVeiled
namespace Go.Proofs.YtfbieagkhbmgjaaDoor
open Go.RowKit
set_option linter.unusedVariables false
set_option linter.unusedSimpArgs false

theorem over_calls (acts : List (Txt × Txt)) (a b : Txt) (u : Value) (g : Nat) (w : World) (hc : w.cell? ⟨g, 0, none⟩ = some u) (hu : Prs w acts u) (hn : acts.length ≤ 10) :
    Calls Tryd.prog 11 #[.string a, .string b, .pointer (some ⟨g, 0, none⟩)] w fun e w' => e = .returned (.bool (overF acts a b)) ∧ Below w.heap.size w w' := by
  have hu0 := hu
  obtain ⟨b1, o1, c1, p1, rfl, _⟩ := hu.cells
  have HU := Lib.hid hu0
  clear hu hu0
  by_cases h : a = b
  · subst h
    have HX : Hid (overF acts a a = false) := by unfold Hid overF; simp
    have q2 : (a.toList == a.toList) = true := by simp
    have q1 : (a.toList != a.toList) = false := by simp
    go_enter Tryd.func11, Tryd.ntmps11
    go_wp2
    go_ret
    exact ⟨ret_bool HX.out.symm, Below.refl _ _⟩
  · have HX : Hid (overF acts a b = actsF acts a b) := by unfold Hid overF; rw [show (a != b) = true by simpa using h]; rfl
    have q2 : (a.toList == b.toList) = false := text_ne h
    have q1 : (a.toList != b.toList) = true := by rw [bne, q2]; rfl
    clear h
    go_enter Tryd.func11, Tryd.ntmps11
    go_wp2_with (fail)
    refine (refActs_calls acts a b _ w HU.out (by omega)).mono ?_
    rintro e w1 ⟨rfl, hb⟩
    go_wp2
    go_ret
    exact ⟨ret_bool HX.out.symm, hb⟩

theorem overIn_calls (acts : List (Txt × Txt)) (a b c : Txt) (u : Value) (g g8 ga gb : Nat) (w : World) (h8 : w.cell? ⟨g8, 0, none⟩ = some (.func (.func 11) #[] #[.pointer (some ⟨g, 0, none⟩)])) (ha : w.cell? ⟨ga, 0, none⟩ = some (.string a)) (hb : w.cell? ⟨gb, 0, none⟩ = some (.string b)) (hc : w.cell? ⟨g, 0, none⟩ = some u) (hu : Prs w acts u) (hn : acts.length ≤ 10) :
    Calls Tryd.prog 14 #[.string c, .pointer (some ⟨g8, 0, none⟩), .pointer (some ⟨ga, 0, none⟩), .pointer (some ⟨gb, 0, none⟩)] w fun e w' => e = .returned (.bool (overF acts a c && overF acts c b)) ∧ Below w.heap.size w w' := by
  have eg : ∀ args w, (callFunc 11 args).run Tryd.prog w = .ok (.enter 11 args) w := enters_at Tryd.func11 (by kernel_rfl) rfl
  have HU := Lib.hid hu
  have HC := Lib.hid hc
  have HH8 := Lib.hid h8
  have HHB := Lib.hid hb
  clear hu hc
  cases hq : overF acts a c with
  | false =>
    have HQ := Lib.hid hq
    clear hq
    go_enter Tryd.func14, Tryd.ntmps14
    go_wp2_with (fail)
    refine (over_calls acts a c u g w HC.out HU.out hn).mono ?_
    rintro e w1 ⟨rfl, hb1⟩
    rw [HQ.out]
    go_wp2
    go_ret
    exact ⟨rfl, hb1⟩
  | true =>
    have HQ := Lib.hid hq
    clear hq
    go_enter Tryd.func14, Tryd.ntmps14
    go_wp2_with (fail)
    refine (over_calls acts a c u g w HC.out HU.out hn).mono ?_
    rintro e w1 ⟨rfl, hb1⟩
    rw [HQ.out]
    have k8 := (hb1.cell (cell_lt HH8.out)).trans HH8.out
    have kb := (hb1.cell (cell_lt HHB.out)).trans HHB.out
    have HB1 := Lib.hid hb1
    clear hb1 h8 ha hb
    go_wp2_with (fail)
    refine (over_calls acts c b u g w1 ((HB1.out.cell (cell_lt HC.out)).trans HC.out) (HU.out.stays (keeps_of_below HB1.out)) hn).mono ?_
    rintro e w2 ⟨rfl, hb2⟩
    go_wp2
    go_ret
    exact ⟨rfl, HB1.out.trans (hb2.mono HB1.out.size)⟩

theorem own_belowP {w w' : World} {base : Nat} {v : Value} {n : Nat} {xs : List Value} {e : TypeId} (h : w.ownsRow base e 2 v n xs) (hb : Below w.heap.size w w') : w'.ownsRow base e 2 v n xs := by
  obtain ⟨h1, h2⟩ := h
  refine ⟨h1, ?_⟩
  rcases h2 with h2 | ⟨g, cap, cur, e1, e2, e3, e4⟩
  · exact .inl h2
  · exact .inr ⟨g, cap, cur, e1, e2, by rw [hb.block g (Array.getElem?_eq_some_iff.1 e3).1]; exact e3, e4⟩
theorem bad_snocL {M : Nat → Nat → Bool} {n i k : Nat} (h : ∀ x, x ∈ ahead n i k → badM M x.1 x.2 = false) (hb : badM M i k = false) : ∀ x, x ∈ ahead n i (k + 1) → badM M x.1 x.2 = false := fun x hx => by
  rw [ahead_succ, List.mem_append] at hx
  rcases hx with hx | hx
  · exact h x hx
  · rw [List.mem_singleton] at hx
    subst hx
    exact hb
theorem grown_cellL {w a : World} {M : Option Nat} (h : w.grownBy a M) {b o : Nat} {v : Value} (hc : w.cell? ⟨b, o, none⟩ = some v) (hne : some b ≠ M) : a.cell? ⟨b, o, none⟩ = some v :=
  (World.cell?_of_block (w := w) (h.block b (cell_lt hc) hne)).trans hc
theorem name_at {l : List Txt} {i : Nat} (h : i < l.length) : nameAt l i = l[i] := getD_at h

set_option maxHeartbeats 4000000 in
set_option maxRecDepth 100000 in
theorem chiefLeast_calls (l : List Txt) (acts : List (Txt × Txt)) (v u : Value) (mx : Int) (w : World) (hv : Strs w l v) (hu : Prs w acts u) (hl : okList okTxt l) (ho : okList (okBoth okTxt okTxt) acts) (hm : w.cell? ⟨0, 0, none⟩ = some (.int .i64 mx)) :
    Calls Tryd.prog 3 #[v, u] w fun e w' => e = .returned (.bool true) ∧ Below w.heap.size w w' := by
  have hv0 := hv
  have hu0 := hu
  obtain ⟨b0, o0, c0, p0, rfl, hlc, hcm, hp, hcells⟩ := hv.cells
  obtain ⟨b1, o1, c1, p1, rfl, _⟩ := hu.cells
  obtain ⟨t0, hi, hz0, hz1, hz2⟩ := info_parts Tryd.info_pair
  have HV : Hid (∀ W, Below w.heap.size w W → Strs W l (.slice p0 l.length c0)) := fun W h => hv0.stays (keeps_of_below h)
  have HU : Hid (∀ W, Below w.heap.size w W → Prs W acts (.slice p1 acts.length c1)) := fun W h => hu0.stays (keeps_of_below h)
  have HPP := Lib.hid hp
  have HCE := Lib.hid hcells
  have HCK : Hid (∀ W, Below w.heap.size w W → Calls Tryd.prog 9 #[.slice p0 l.length c0, .slice p1 acts.length c1] W fun e w' => e = .returned (.int .i64 (checkC l acts)) ∧ Below W.heap.size W w') := fun W h =>
    refCheck_calls l acts _ _ mx W (HV.out W h) (HU.out W h) hl ho ((h.cell (cell_lt hm)).trans hm)
  have HLS : Hid (∀ W, Below w.heap.size w W → Calls Tryd.prog 8 #[.slice p0 l.length c0, .slice p1 acts.length c1] W fun e w' => ∃ x, e = .returned (.tuple #[x, .int .i64 (leastE l acts)]) ∧ Prs w' (leastR l acts) x ∧ Below W.heap.size W w') := fun W h =>
    least_calls l acts _ _ W (HV.out W h) (HU.out W h)
  obtain ⟨W0, eW⟩ : ∃ W0, w.alloc (.cells #[.slice p1 acts.length c1] 23) = W0 := ⟨_, rfl⟩
  obtain ⟨z0, hW0, m0⟩ := boxes1 eW
  have j0 := m0 0
  simp only [List.getElem?_toArray, List.getElem?_cons_zero] at j0
  have HW0 := Lib.hid hW0
  have HJ0 := Lib.hid j0
  have HZ0 := Lib.hid z0
  clear hv hu hv0 hu0 hp hcells m0 hW0 z0 hm hl ho
  by_cases hc : checkC l acts = 0
  · obtain ⟨z1, z2, _, _⟩ := checkC_zero hc
    have HC := Lib.hid hc
    have HOV : Hid (∀ i k (hi : i < l.length) (hk : k < l.length), overF acts l[i] l[k] = overM (closM l acts) i k) := fun i k hi hk => over_eq hc hi hk
    have HCV : Hid (∀ i k (hi : i < l.length) (hk : k < l.length), coverM (closM l acts) l.length i k = (overF acts l[i] l[k] && !betwF l acts l[i] l[k])) := fun i k hi hk => cover_eq hc hi hk
    have HBD : Hid (∀ i k (hi : i < l.length) (hk : k < l.length), badM (closM l acts) i k = (overF acts l[i] l[k] && overF acts l[k] l[i])) := fun i k hi hk => bad_eq hc hi hk
    have HRG : Hid (∀ i k (hi : i < l.length) (hk : k < l.length), overF acts l[i] l[k] = true → overF acts l[k] l[i] = true → leastE l acts = 4) := fun i k hi hk h1 h2 => least_ring hc hi hk h1 h2
    have HNO : Hid ((∀ x, x ∈ ahead l.length l.length 0 → badM (closM l acts) x.1 x.2 = false) → leastE l acts = 0) := fun h =>
      least_none hc fun i k hi hk => by
        rw [← bad_eq hc hi hk]
        exact h (i, k) (mem_ahead.2 (.inl ⟨hi, hk⟩))
    have HLR : Hid (leastE l acts = 0 → leastR l acts = leastTo l (closM l acts) l.length 0) := fun h => by unfold leastR; rw [if_pos h]
    have HLN : Hid (leastE l acts = 4 → leastR l acts = []) := fun h => by unfold leastR; rw [if_neg (by omega)]
    generalize closM l acts = M at *
    clear hc
    have eg : ∀ args w, (callFunc 11 args).run Tryd.prog w = .ok (.enter 11 args) w := enters_at Tryd.func11 (by kernel_rfl) rfl
    have eg2 : ∀ args w, (callFunc 14 args).run Tryd.prog w = .ok (.enter 14 args) w := enters_at Tryd.func14 (by kernel_rfl) rfl
    have HEG2 := Lib.hid eg2
    clear eg2
    go_enter Tryd.func3, Tryd.ntmps3
    go_wp2_with (fail)
    refine (HLS.out _ HW0.out).mono ?_
    rintro e w1 ⟨x, rfl, hx, hb1⟩
    obtain ⟨bx, ox, cx, px, rfl, _⟩ := hx.cells
    have HX := Lib.hid hx
    have HB1 := Lib.hid (HW0.out.trans (hb1.mono HW0.out.size))
    have k1 : w1.cell? ⟨w.heap.size, 0, none⟩ = some (.slice p1 acts.length c1) := (hb1.cell (cell_lt HJ0.out)).trans HJ0.out
    have HK1 := Lib.hid k1
    clear hx hb1
    go_wp2_with (fail)
    refine (HCK.out _ HB1.out).mono ?_
    rintro e w3 ⟨rfl, hb3⟩
    rw [HC.out]
    have HB3 := Lib.hid (HB1.out.trans (hb3.mono HB1.out.size))
    have HX3 := Lib.hid (HX.out.stays (keeps_of_below hb3))
    have k3 : w3.cell? ⟨w.heap.size, 0, none⟩ = some (.slice p1 acts.length c1) := (hb3.cell (cell_lt HK1.out)).trans HK1.out
    have HK3 := Lib.hid k3
    clear hb3 k1
    go_wp2_with (fail)
    refine (chiefed_calls _).mono ?_
    rintro e w4 ⟨rfl, hb4⟩
    have HB4 := Lib.hid (HB3.out.trans (hb4.mono HB3.out.size))
    have HX4 := Lib.hid (HX3.out.stays (keeps_of_below hb4))
    have k4 : w4.cell? ⟨w.heap.size, 0, none⟩ = some (.slice p1 acts.length c1) := (hb4.cell (cell_lt HK3.out)).trans HK3.out
    have HK4 := Lib.hid k4
    clear hb4 k3 k4
    obtain ⟨W8, eW8⟩ : ∃ W8, w4.alloc (.cells #[.func (.func 11) #[] #[.pointer (some ⟨w.heap.size, 0, none⟩)]] 30) = W8 := ⟨_, rfl⟩
    obtain ⟨z8, hW8, m8⟩ := boxes1 eW8
    have j8 := m8 0
    simp only [List.getElem?_toArray, List.getElem?_cons_zero] at j8
    have HJ8 := Lib.hid j8
    have HB8 : Hid (Below w.heap.size w W8) := HB4.out.trans (hW8.mono HB4.out.size)
    have HX8 := Lib.hid (HX4.out.stays (keeps_of_below hW8))
    have HK8 : Hid (W8.cell? ⟨w.heap.size, 0, none⟩ = some (.slice p1 acts.length c1)) := (hW8.cell (cell_lt HK4.out)).trans HK4.out
    have HL8 : Hid (w4.heap.size < W8.heap.size ∧ w.heap.size < W8.heap.size) := ⟨by omega, cell_lt HK8.out⟩
    clear m8 hW8 z8 j8
    go_wp2

    go_loopw [9, 43] (fun x i ws => ∃ (k : Nat) (wo : World) (xv : Value), k ≤ l.length ∧ i = .int .i64 k ∧ wo = ws ∧ xv = x ∧ Hid (Below W8.heap.size W8 wo) ∧ Hid (wo.ownsRow W8.heap.size 33 2 xv (leastTo l M k 0).length ((leastTo l M k 0).flatMap pairCells)) ∧ Hid (∀ x, x ∈ ahead l.length k 0 → badM M x.1 x.2 = false)) (fun _ i _ => l.length - (intOf i).toNat)
    case atStart => exact ⟨0, _, _, Nat.zero_le _, rfl, rfl, rfl, by unfold Hid; subst eW8; exact Below.refl _ _, World.ownsRow_nil _ _ _ _, fun x hx => by simp [ahead_zero] at hx⟩
    case round =>
      clear eW8
      obtain ⟨i, wo, xv, hi', rfl, rfl, rfl, HB, HOW, HRI⟩ := hrel
      have HBW : Hid (Below w.heap.size w wo) := HB8.out.trans (HB.out.mono HB8.out.size)
      by_cases hlt : i < l.length
      · have g0 := HCE.out i hlt
        have hcell : wo.cell? ⟨b0, o0 + i, none⟩ = some (.string l[i]) := (HBW.out.cell (cell_lt g0)).trans g0
        obtain rfl := HPP.out (by omega)
        obtain ⟨WA, eWA⟩ : ∃ WA, wo.alloc (.cells #[.string l[i]] 9) = WA := ⟨_, rfl⟩
        obtain ⟨zA, hWA, mA⟩ := boxes1 eWA
        have jA := mA 0
        simp only [List.getElem?_toArray, List.getElem?_cons_zero] at jA
        have HJA := Lib.hid jA
        have HBA : Hid (Below W8.heap.size W8 WA) := HB.out.trans (hWA.mono HB.out.size)
        have HOA := Lib.hid (own_belowP HOW.out hWA)
        have HNA : Hid (xv.ownBlock ≠ some wo.heap.size) := fun e => by have := (HOW.out.lt _ e).2; omega
        clear g0 mA hWA zA jA
        go_wp2
        go_loopw [9, 49] (fun x i' ws => ∃ (k : Nat) (wi : World) (xv : Value), k ≤ l.length ∧ i' = .int .i64 k ∧ wi = ws ∧ xv = x ∧ Hid (Below W8.heap.size W8 wi) ∧ Hid (wi.cell? ⟨wo.heap.size, 0, none⟩ = some (.string l[i])) ∧ Hid (xv.ownBlock ≠ some wo.heap.size) ∧ Hid (wi.ownsRow W8.heap.size 33 2 xv (leastTo l M i k).length ((leastTo l M i k).flatMap pairCells)) ∧ Hid (∀ x, x ∈ ahead l.length i k → badM M x.1 x.2 = false)) (fun _ i' _ => l.length - (intOf i').toNat)
        case atStart => exact ⟨0, _, _, Nat.zero_le _, rfl, rfl, rfl, by unfold Hid; subst eWA; exact HBA.out, by unfold Hid; subst eWA; exact HJA.out, HNA.out, by unfold Hid; subst eWA; exact HOA.out, HRI.out⟩
        case round =>
          clear hcell eWA
          obtain ⟨k, wi, xv, hk, rfl, rfl, rfl, HB8I, HCA, HNB, HOI, HRK⟩ := hrel
          have HBWI : Hid (Below w.heap.size w wi) := HB8.out.trans (HB8I.out.mono HB8.out.size)
          by_cases hltk : k < l.length
          · have g0 := HCE.out k hltk
            have hcell : wi.cell? ⟨b0, o0 + k, none⟩ = some (.string l[k]) := (HBWI.out.cell (cell_lt g0)).trans g0
            obtain ⟨WB, eWB⟩ : ∃ WB, wi.alloc (.cells #[.string l[k]] 9) = WB := ⟨_, rfl⟩
            obtain ⟨zB, hWB, mB⟩ := boxes1 eWB
            have jB := mB 0
            simp only [List.getElem?_toArray, List.getElem?_cons_zero] at jB
            have HJB := Lib.hid jB
            have HLB : Hid (wi.heap.size < WB.heap.size) := by unfold Hid; omega
            have HB8B : Hid (Below W8.heap.size W8 WB) := HB8I.out.trans (hWB.mono HB8I.out.size)
            have HCB : Hid (WB.cell? ⟨wo.heap.size, 0, none⟩ = some (.string l[i])) := (hWB.cell (cell_lt HCA.out)).trans HCA.out
            have HBWB : Hid (Below w.heap.size w WB) := HB8.out.trans (HB8B.out.mono HB8.out.size)
            have HOB := Lib.hid (own_belowP HOI.out hWB)
            have HKA : Hid (∀ W, Below WB.heap.size WB W → W.cell? ⟨wo.heap.size, 0, none⟩ = some (.string l[i])) := fun W h => (h.cell (cell_lt HCB.out)).trans HCB.out
            have HK8A : Hid (∀ W, Below W8.heap.size W8 W → W.cell? ⟨w4.heap.size, 0, none⟩ = some (.func (.func 11) #[] #[.pointer (some ⟨w.heap.size, 0, none⟩)])) := fun W h => (h.cell (p := ⟨w4.heap.size, 0, none⟩) HL8.out.1).trans HJ8.out
            have HKU : Hid (∀ W, Below W8.heap.size W8 W → W.cell? ⟨w.heap.size, 0, none⟩ = some (.slice p1 acts.length c1)) := fun W h => (h.cell (p := ⟨w.heap.size, 0, none⟩) HL8.out.2).trans HK8.out
            have ka := HCB.out
            have k8 := HK8A.out _ HB8B.out
            have HOVC : Hid (∀ x y W, Below W8.heap.size W8 W → Calls Tryd.prog 11 #[.string x, .string y, .pointer (some ⟨w.heap.size, 0, none⟩)] W fun e w' => e = .returned (.bool (overF acts x y)) ∧ Below W.heap.size W w') := fun x y W h =>
              over_calls acts x y _ w.heap.size W (HKU.out W h) (HU.out W (HB8.out.trans (h.mono HB8.out.size))) z2
            have HBDK := Lib.hid (HBD.out i k hlt hltk)
            have HCVK := Lib.hid (HCV.out i k hlt hltk)
            clear g0 mB hWB zB
            cases h1 : overF acts l[i] l[k] with
            | false =>
              have HQ := Lib.hid h1
              have HN1 : Hid (leastTo l M i (k + 1) = leastTo l M i k) := leastTo_miss (by rw [HCVK.out, h1]; rfl)
              have HN2 := Lib.hid (bad_snocL HRK.out (by rw [HBDK.out, h1]; rfl))
              clear h1
              go_wp2_with (fail)
              refine (HOVC.out _ _ _ HB8B.out).mono ?_
              rintro e w9 ⟨rfl, hb9⟩
              rw [HQ.out]
              have HB9 := Lib.hid (HB8B.out.trans (hb9.mono HB8B.out.size))
              have HO9 := Lib.hid (own_belowP HOB.out hb9)
              have HC9 := Lib.hid (HKA.out _ hb9)
              clear hb9
              go_wp2
              go_roundw
              case rel => exact ⟨k + 1, _, _, by omega, by go_num, rfl, rfl, HB9.out, HC9.out, HNB.out, by unfold Hid; rw [HN1.out]; exact HO9.out, HN2.out⟩
              case measure => simp [intOf]; omega
            | true =>
              have HQ := Lib.hid h1
              cases h2 : overF acts l[k] l[i] with
              | true =>
                have hE := HRG.out i k hlt hltk h1 h2
                have HQ2 := Lib.hid h2
                have hq1 : (leastE l acts == 4) = true := by rw [hE]; rfl
                have hq3 : (leastR l acts).length = 0 := by rw [HLN.out hE]; rfl
                have hq4 : (((leastR l acts).length : Int) == 0) = true := by rw [hq3]; rfl
                clear h1 h2 hE hq3
                go_wp2_with (fail)
                refine (HOVC.out _ _ _ HB8B.out).mono ?_
                rintro e w9 ⟨rfl, hb9⟩
                rw [HQ.out]
                have HBB9 := Lib.hid hb9
                have HB89 : Hid (Below W8.heap.size W8 w9) := HB8B.out.trans (HBB9.out.mono HB8B.out.size)
                have ka9 := HKA.out _ HBB9.out
                have k89 := HK8A.out _ HB89.out
                have kb9 : w9.cell? ⟨wi.heap.size, 0, none⟩ = some (.string l[k]) := (hb9.cell (p := ⟨wi.heap.size, 0, none⟩) HLB.out).trans HJB.out
                clear hb9 ka k8 jB hcell
                go_wp2_with (fail)
                refine (HOVC.out _ _ _ HB89.out).mono ?_
                rintro e w10 ⟨rfl, hb10⟩
                rw [HQ2.out]
                have HB10 : Hid (Below w.heap.size w w10) := HB8.out.trans ((HB89.out.trans (hb10.mono HB89.out.size)).mono HB8.out.size)
                clear hb10 ka9 k89 kb9
                go_wp2
                go_ret
                exact ⟨rfl, HB10.out⟩
              | false =>
                have HQ2 := Lib.hid h2
                have HN2 := Lib.hid (bad_snocL HRK.out (by rw [HBDK.out, h2, Bool.and_false]))
                have HCT : Hid (∀ W, Below WB.heap.size WB W → Calls Tryd.prog 13 #[.slice (some ⟨b0, o0, none⟩) l.length c0, .func (.func 14) #[] #[.pointer (some ⟨w4.heap.size, 0, none⟩), .pointer (some ⟨wo.heap.size, 0, none⟩), .pointer (some ⟨wi.heap.size, 0, none⟩)]] W fun e w' => e = .returned (.bool (betwF l acts l[i] l[k])) ∧ Below W.heap.size W w') := fun W h =>
                  containsFunc_calls l _ 14 #[.pointer (some ⟨w4.heap.size, 0, none⟩), .pointer (some ⟨wo.heap.size, 0, none⟩), .pointer (some ⟨wi.heap.size, 0, none⟩)] (fun c => overF acts l[i] c && overF acts c l[k]) W (HV.out W (HBWB.out.trans (h.mono HBWB.out.size))) HEG2.out (fun x hx W2 hW2 => by
                    have hBW2 : Below WB.heap.size WB W2 := h.trans (hW2.mono h.size)
                    have h82 : Below W8.heap.size W8 W2 := HB8B.out.trans (hBW2.mono HB8B.out.size)
                    exact overIn_calls acts l[i] l[k] x _ w.heap.size w4.heap.size wo.heap.size wi.heap.size W2 (HK8A.out _ h82) (HKA.out _ hBW2) ((hBW2.cell (p := ⟨wi.heap.size, 0, none⟩) HLB.out).trans HJB.out) (HKU.out _ h82) (HU.out _ (HB8.out.trans (h82.mono HB8.out.size))) z2)
                have hle : (leastTo l M i k).length ≤ 42 := Nat.le_trans (leastTo_le l M i k (by omega) (by omega)) (by have := Nat.mul_le_mul z1 z1; omega)
                cases h3 : betwF l acts l[i] l[k] with
                | true =>
                  have HQ3 := Lib.hid h3
                  have HN1 : Hid (leastTo l M i (k + 1) = leastTo l M i k) := leastTo_miss (by rw [HCVK.out, h3]; simp)
                  clear h1 h2 h3
                  go_wp2_with (fail)
                  refine (HOVC.out _ _ _ HB8B.out).mono ?_
                  rintro e w9 ⟨rfl, hb9⟩
                  rw [HQ.out]
                  have HBB9 := Lib.hid hb9
                  have HB89 : Hid (Below W8.heap.size W8 w9) := HB8B.out.trans (HBB9.out.mono HB8B.out.size)
                  have ka9 := HKA.out _ HBB9.out
                  have k89 := HK8A.out _ HB89.out
                  have kb9 : w9.cell? ⟨wi.heap.size, 0, none⟩ = some (.string l[k]) := (hb9.cell (p := ⟨wi.heap.size, 0, none⟩) HLB.out).trans HJB.out
                  clear hb9 ka k8 jB hcell
                  go_wp2_with (fail)
                  refine (HOVC.out _ _ _ HB89.out).mono ?_
                  rintro e w10 ⟨rfl, hb10⟩
                  rw [HQ2.out]
                  have HBB10 : Hid (Below WB.heap.size WB w10) := HBB9.out.trans (hb10.mono HBB9.out.size)
                  clear hb10 ka9 k89 kb9
                  go_wp2_with (fail)
                  refine (HCT.out _ HBB10.out).mono ?_
                  rintro e w11 ⟨rfl, hb11⟩
                  rw [HQ3.out]
                  have HBB11 : Hid (Below WB.heap.size WB w11) := HBB10.out.trans (hb11.mono HBB10.out.size)
                  have HB11 : Hid (Below W8.heap.size W8 w11) := HB8B.out.trans (HBB11.out.mono HB8B.out.size)
                  have HO11 := Lib.hid (own_belowP HOB.out HBB11.out)
                  clear hb11
                  go_wp2
                  go_roundw
                  case rel => exact ⟨k + 1, _, _, by omega, by go_num, rfl, rfl, HB11.out, HKA.out _ HBB11.out, HNB.out, by unfold Hid; rw [HN1.out]; exact HO11.out, HN2.out⟩
                  case measure => simp [intOf]; omega
                | false =>
                  have HQ3 := Lib.hid h3
                  have HN1 : Hid (leastTo l M i (k + 1) = leastTo l M i k ++ [(l[i], l[k])]) := by
                    have := leastTo_hit (l := l) (M := M) (i := i) (k := k) (by rw [HCVK.out, h1, h3]; rfl)
                    rw [name_at hlt, name_at hltk] at this
                    exact this
                  clear h1 h2 h3
                  go_wp2_with (fail)
                  refine (HOVC.out _ _ _ HB8B.out).mono ?_
                  rintro e w9 ⟨rfl, hb9⟩
                  rw [HQ.out]
                  have HBB9 := Lib.hid hb9
                  have HB89 : Hid (Below W8.heap.size W8 w9) := HB8B.out.trans (HBB9.out.mono HB8B.out.size)
                  have ka9 := HKA.out _ HBB9.out
                  have k89 := HK8A.out _ HB89.out
                  have kb9 : w9.cell? ⟨wi.heap.size, 0, none⟩ = some (.string l[k]) := (hb9.cell (p := ⟨wi.heap.size, 0, none⟩) HLB.out).trans HJB.out
                  clear hb9 ka k8 jB hcell
                  go_wp2_with (fail)
                  refine (HOVC.out _ _ _ HB89.out).mono ?_
                  rintro e w10 ⟨rfl, hb10⟩
                  rw [HQ2.out]
                  have HBB10 : Hid (Below WB.heap.size WB w10) := HBB9.out.trans (hb10.mono HBB9.out.size)
                  clear hb10 ka9 k89 kb9
                  go_wp2_with (fail)
                  refine (HCT.out _ HBB10.out).mono ?_
                  rintro e w11 ⟨rfl, hb11⟩
                  rw [HQ3.out]
                  have HBB11 : Hid (Below WB.heap.size WB w11) := HBB10.out.trans (hb11.mono HBB10.out.size)
                  have HB11 : Hid (Below W8.heap.size W8 w11) := HB8B.out.trans (HBB11.out.mono HB8B.out.size)
                  have hown11 := own_belowP HOB.out HBB11.out
                  have ka11 := HKA.out _ HBB11.out
                  have HKA11 := Lib.hid ka11
                  have kb11 : w11.cell? ⟨wi.heap.size, 0, none⟩ = some (.string l[k]) := (HBB11.out.cell (p := ⟨wi.heap.size, 0, none⟩) HLB.out).trans HJB.out
                  have hsz11 := HB11.out.size
                  have hlo11 := cell_lt ka11
                  clear hb11
                  go_wp2_with (at_builtin; refine wpList_append_own_at _ rfl _ _ 23 rfl W8.heap.size 33 t0 (.agg #[.string ByteArray.empty, .string ByteArray.empty]) 2 32 Tryd.underlying23 hi hz0 hz1 hz2 rfl (by decide) _ _ _ rfl (hown11.alloc _) ⟨w11.heap.size, 0, none⟩ 1 1 (pairCells (l[i], l[k])) rfl rfl ?c1 ?c2 ?c3 ?c4 ?c5 ?_)
                  case c1 =>
                    intro j u hj
                    match j, hj with
                    | 0, hj => simp [pairCells] at hj; subst hj; simp [Addr.add]
                    | 1, hj => simp [pairCells] at hj; subst hj; simp [Addr.add]
                  case c2 => intro u hu; simp [pairCells] at hu; rcases hu with rfl | rfl <;> rfl
                  case c3 => unfold maxLen; omega
                  case c4 => omega
                  case c5 => simp; omega
                  · intro v' w12 hown' hgrow _ hat
                    have HAT : Hid (v'.ownBlock ≠ some wo.heap.size) := fun e => by
                      rcases hat with h | h
                      · rw [h] at e; exact HNB.out e
                      · rw [h] at e; simp at e; omega
                    clear hat
                    go_wp2
                    go_roundw
                    case rel =>
                      refine ⟨k + 1, _, _, by omega, by go_num, rfl, rfl, (HB11.out.alloc HB11.out.size _).grown hgrow (by simp; omega) (fun q hq => (hown11.lt q hq).1), grown_cellL hgrow ((alloc_cell_old _ _ _ _ hlo11).trans HKA11.out) (fun e => HNB.out e.symm), HAT.out, ?_, HN2.out⟩
                      unfold Hid
                      rw [HN1.out, List.length_append, List.flatMap_append]
                      simpa using hown'
                    case measure => simp [intOf]; omega
          · obtain rfl : k = l.length := by omega
            have HN : Hid (∀ x, x ∈ ahead l.length (i + 1) 0 → badM M x.1 x.2 = false) := by rw [← ahead_row]; exact HRK.out
            have HR : Hid (leastTo l M (i + 1) 0 = leastTo l M i l.length) := by unfold Hid leastTo; rw [ahead_row]
            go_wp2
            go_roundw
            case rel => exact ⟨i + 1, _, _, by omega, by go_num, rfl, rfl, HB8I.out, by unfold Hid; rw [HR.out]; exact HOI.out, HN.out⟩
            case measure => simp [intOf]; omega
      · obtain rfl : i = l.length := by omega
        have hE := HNO.out HRI.out
        have hq1 : (leastE l acts == 0) = true := by rw [hE]; rfl
        have HRR := Lib.hid (HLR.out hE)
        have hW := Prs.of_owns HOW.out
        rw [← HRR.out] at hW
        obtain ⟨by_, oy, cy, py, rfl, _⟩ := hW.cells
        have HEQ := Lib.hid (equalP_calls (leastR l acts) (leastR l acts) _ _ wo (HX8.out.stays (keeps_of_below HB.out)) hW)
        rw [HRR.out] at HEQ ⊢
        clear hW hE
        go_wp2_with (fail)
        refine HEQ.out.mono ?_
        rintro e w9 ⟨rfl, n9, rfl⟩
        have e9 : (leastTo l M l.length 0 == leastTo l M l.length 0) = true := by rw [beq_iff_eq]
        rw [e9]
        have HB9 : Hid (Below w.heap.size w (wo.drewN n9)) := below_drewN HBW.out n9
        clear e9
        go_wp2
        go_ret
        exact ⟨rfl, HB9.out⟩
  · have hq1 : (checkC l acts != 0) = true := by simpa using hc
    have hq2 : (checkC l acts == 0) = false := by simpa using hc
    have hq3 : (checkC l acts == checkC l acts) = true := beq_self_eq_true _
    have HE1 : Hid (leastE l acts = checkC l acts) := by unfold Hid leastE; rw [if_pos hc]
    have HE2 : Hid (leastR l acts = []) := by unfold Hid leastR; rw [if_neg (by rw [HE1.out]; exact hc)]
    clear hc
    go_enter Tryd.func3, Tryd.ntmps3
    go_wp2_with (fail)
    refine (HLS.out _ HW0.out).mono ?_
    rintro e w1 ⟨x, rfl, hx, hb1⟩
    rw [HE2.out] at hx
    rw [HE1.out]
    obtain ⟨bx, ox, cx, px, rfl, _⟩ := hx.cells
    have HB1 := Lib.hid (HW0.out.trans (hb1.mono HW0.out.size))
    have k1 : w1.cell? ⟨w.heap.size, 0, none⟩ = some (.slice p1 acts.length c1) := (hb1.cell (cell_lt HJ0.out)).trans HJ0.out
    clear hx hb1
    go_wp2_with (fail)
    refine (HCK.out _ HB1.out).mono ?_
    rintro e w3 ⟨rfl, hb3⟩
    have HB3 := Lib.hid (HB1.out.trans (hb3.mono HB1.out.size))
    clear hb3 k1
    go_wp2_with (fail)
    refine (chiefed_calls _).mono ?_
    rintro e w4 ⟨rfl, hb4⟩
    have HB4 := Lib.hid (HB3.out.trans (hb4.mono HB3.out.size))
    clear hb4
    go_wp2_with (fail)
    refine (chiefed_calls _).mono ?_
    rintro e w5 ⟨rfl, hb5⟩
    have HB5 := Lib.hid (HB4.out.trans (hb5.mono HB4.out.size))
    clear hb5
    go_wp2
    go_ret
    exact ⟨rfl, HB5.out⟩
end Go.Proofs.YtfbieagkhbmgjaaDoor
