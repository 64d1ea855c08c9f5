/-
  sort.partialInsertionSort_func under a less that lays blocks.
-/
import Derived.Test.YtcgihpfanfbonaaGreatDoorLN11
import Derived.Sort.WalkA6
namespace Go.Proofs.YtcgihpfanfbonaaGreatDoor
open Go.RowKit Go.Sort
set_option linter.unusedVariables false
set_option linter.unusedSimpArgs false
section
variable {α : Type} [Inhabited α] {enc : α → Value} {lt : α → α → Bool} {g sf blk off size : Nat} {lb sb : Array Value} {w0 : World}

set_option maxHeartbeats 16000000 in
set_option maxRecDepth 100000 in
theorem partInsF_calls (S : Sorter enc lt g lb sf sb w0 blk off size) (a b : Nat) (d : Array α) (W : World) (hA : RowAt enc w0 blk off size d W) (hab : a < b) (hb : b ≤ size) :
    Calls Tryz.prog 121 #[.agg #[.func (.func g) #[] lb, .func (.func sf) #[] sb], .int .i64 a, .int .i64 b] W fun e w' =>
      e = .returned (.bool (partialInsertionSort lt d a b).2) ∧ RowAt enc w0 blk off size (partialInsertionSort lt d a b).1 w' ∧ W.grownBy w' (some blk) := by
  obtain ⟨W1, eW⟩ : ∃ W1, W.alloc (.cells #[.func (.func g) #[] lb, .func (.func sf) #[] sb] 130) = W1 := ⟨_, rfl⟩
  obtain ⟨z1, hW, m1⟩ := boxes1 eW
  have c0 := m1 0
  have c1 := m1 1
  simp only [List.getElem?_toArray, List.getElem?_cons_zero, List.getElem?_cons_succ] at c0 c1
  have hbk : blk < W.heap.size := hA.there S.low
  have HA1 : Hid (RowAt enc w0 blk off size d W1) := hA.below S.low hW
  have HG1 : Hid (W.grownBy W1 (some blk)) := grown_below (World.grownBy.refl _ _) hW
  have HNE : Hid (W.heap.size ≠ blk) := by unfold Hid; omega
  have HS := Lib.hid S
  have hsm := S.small
  have eg := S.eg
  have HC0 := Lib.hid c0
  have HC1 := Lib.hid c1
  clear m1 z1 hW c0 c1 S hA
  go_enter Tryz.func121, Tryz.ntmps121
  go_wp2
  go_loopw [7, 8] (fun vi vs wr => ∃ (i s : Nat) (dk : Array α) (wo : World), vi = .int .i64 i ∧ vs = .int .i64 s ∧ wo = wr ∧ s ≤ 5 ∧ a < i ∧ i ≤ b ∧ Hid (RowAt enc w0 blk off size dk wo) ∧ Hid (W1.grownBy wo (some blk)) ∧ Hid (partialIns lt a b (5 - s) i dk = partialInsertionSort lt d a b)) (fun _ vs _ => 5 - (intOf vs).toNat)
  case atStart => exact ⟨a + 1, 0, d, _, by go_num, rfl, rfl, by omega, by omega, by omega, HA1, World.grownBy.refl _ _, rfl⟩
  case round =>
    obtain ⟨i, s, dk, wo, rfl, rfl, rfl, hs5, hai, hib, HAwo, HGwo, HO⟩ := hrel
    by_cases hs : s < 5
    · have hsi : (s : Int) < 5 := by omega
      go_wp2
      go_loopw [7] (fun vi wr => ∃ (k : Nat) (wu : World), vi = .int .i64 k ∧ wu = wr ∧ i ≤ k ∧ k ≤ b ∧ Hid (RowAt enc w0 blk off size dk wu) ∧ Hid (W1.grownBy wu (some blk)) ∧ Hid (scanSorted lt dk b k = scanSorted lt dk b i)) (fun vi _ => b - (intOf vi).toNat)
      case atStart => exact ⟨i, _, rfl, rfl, Nat.le_refl _, hib, HAwo, HGwo, rfl⟩
      case round =>
        obtain ⟨k, wu, rfl, rfl, hik, hkb, HAwu, HGwu, HSC⟩ := hrel
        by_cases h4 : k < b
        · have h4i : (k : Int) < (b : Int) := by omega
          cases h5 : lt dk[k]! dk[k - 1]! with
          | false =>
            have HUN : Hid (scanSorted lt dk b (k + 1) = scanSorted lt dk b i) := by unfold Hid; rw [← HSC.out, scanSorted_go lt dk b k h4 h5]
            have hl := HS.out.less _ _ HAwu.out (k) (k - 1) (by omega) (by omega)
            rw [h5, show (((k - 1 : Nat) : Int)) = (k : Int) - 1 by omega] at hl
            have HLwv := Lib.hid hl
            clear hl
            have e0wv := box_grown HGwu.out HC0.out HNE.out
            go_wp2_with (fail)
            refine HLwv.out.mono ?_
            rintro e wv ⟨rfl, hbwv⟩
            have HAwv : Hid (RowAt enc w0 blk off size dk wv) := HAwu.out.below HS.out.low hbwv
            have HGwv : Hid (W1.grownBy wv (some blk)) := grown_below HGwu.out hbwv
            clear hbwv e0wv HLwv

            clear h5
            go_wp2
            go_roundw
            case rel => exact ⟨k + 1, _, by go_num, rfl, by omega, by omega, HAwv, HGwv, HUN⟩
            case measure => simp [intOf]; omega
          | true =>
            have HK : Hid (scanSorted lt dk b i = k) := by unfold Hid; rw [← HSC.out, scanSorted_stop lt dk b k (.inr h5)]
            have hkb0 : k ≠ b := by omega
            have hkbi : ¬ (k : Int) = (b : Int) := by omega
            have hkbb : ((k : Int) == (b : Int)) = false := beq_eq_false_iff_ne.2 hkbi
            have hl := HS.out.less _ _ HAwu.out (k) (k - 1) (by omega) (by omega)
            rw [h5, show (((k - 1 : Nat) : Int)) = (k : Int) - 1 by omega] at hl
            have HLwv := Lib.hid hl
            clear hl
            have e0wv := box_grown HGwu.out HC0.out HNE.out
            go_wp2_with (fail)
            refine HLwv.out.mono ?_
            rintro e wv ⟨rfl, hbwv⟩
            have HAwv : Hid (RowAt enc w0 blk off size dk wv) := HAwu.out.below HS.out.low hbwv
            have HGwv : Hid (W1.grownBy wv (some blk)) := grown_below HGwu.out hbwv
            clear hbwv e0wv HLwv

            clear h5
            by_cases h50 : b - a < 50
            · have h50i : (b : Int) - (a : Int) < 50 := by omega
              have HE : Hid (partialInsertionSort lt d a b = (dk, false)) := by unfold Hid; rw [← HO.out, pi_short lt a b s i dk hs (by rw [HK.out]; exact hkb0) h50]
              go_wp2
              refine bodyPost_ret (v := .bool false) ?_ rfl ⟨by rw [HE.out], by rw [HE.out]; exact HAwv.out, grown_grown HG1.out HGwv.out⟩
              simp [results, Tryz.results121, go_sem]
            · have h50i : ¬ (b : Int) - (a : Int) < 50 := by omega
              have e1wx := box_grown HGwv.out HC1.out HNE.out
              have hs := HS.out.swap wv dk HAwv.out.holds HAwv.out.size (k) (k - 1) (by omega) (by omega)
              rw [show (((k - 1 : Nat) : Int)) = (k : Int) - 1 by omega] at hs
              obtain ⟨wx, ewx⟩ : ∃ wqq, (wv.setCell ⟨blk, off + (k), none⟩ (enc dk[k - 1]!)).setCell ⟨blk, off + (k - 1), none⟩ (enc dk[k]!) = wqq := ⟨_, rfl⟩
              have HAwx : Hid (RowAt enc w0 blk off size (swp dk (k) (k - 1)) wx) := by rw [← ewx]; exact HAwv.out.swapped (k) (k - 1) (by omega) (by omega)
              have HGwx : Hid (W1.grownBy wx (some blk)) := by rw [← ewx]; exact grown_grown (grown_grown HGwv.out (grown_setCellS _ _ _)) (grown_setCellS _ _ _)
              rw [ewx] at hs
              have HSWwx := Lib.hid hs
              clear hs ewx
              go_wp2
              rw [HSWwx.out, Oper.upon_value]
              clear e1wx HSWwx

              by_cases hka : k - a ≥ 2
              · have hkai : (k : Int) - (a : Int) ≥ 2 := by omega
                go_wp2
                go_loopw [9] (fun vj wr => ∃ (j : Nat) (dj : Array α) (wo : World), vj = .int .i64 j ∧ wo = wr ∧ j ≤ k - 1 ∧ Hid (RowAt enc w0 blk off size dj wo) ∧ Hid (W1.grownBy wo (some blk)) ∧ Hid (shiftDown lt j dj = fixDown lt a k (swp dk k (k - 1)))) (fun vj _ => (intOf vj).toNat)
                case atStart => exact ⟨k - 1, _, _, by congr 1; omega, rfl, Nat.le_refl _, HAwx, HGwx, by unfold Hid fixDown; rw [if_pos hka]⟩
                case round =>
                  obtain ⟨j, dj, wy, rfl, rfl, hjk, HAwy, HGwy, HDW⟩ := hrel
                  by_cases h6 : 1 ≤ j
                  · have h6i : 1 ≤ (j : Int) := by omega
                    cases h9 : lt dj[j]! dj[j - 1]! with
                    | true =>
                      have HDN : Hid (shiftDown lt (j - 1) (swp dj j (j - 1)) = fixDown lt a k (swp dk k (k - 1))) := by unfold Hid; rw [← HDW.out, shiftDown_go lt j dj h6 h9]
                      have hl := HS.out.less _ _ HAwy.out (j) (j - 1) (by omega) (by omega)
                      rw [h9, show (((j - 1 : Nat) : Int)) = (j : Int) - 1 by omega] at hl
                      have HLwz := Lib.hid hl
                      clear hl
                      have e0wz := box_grown HGwy.out HC0.out HNE.out
                      go_wp2_with (fail)
                      refine HLwz.out.mono ?_
                      rintro e wz ⟨rfl, hbwz⟩
                      have HAwz : Hid (RowAt enc w0 blk off size dj wz) := HAwy.out.below HS.out.low hbwz
                      have HGwz : Hid (W1.grownBy wz (some blk)) := grown_below HGwy.out hbwz
                      clear hbwz e0wz HLwz

                      clear h9

                      have e1wn := box_grown HGwz.out HC1.out HNE.out
                      have hs := HS.out.swap wz dj HAwz.out.holds HAwz.out.size (j) (j - 1) (by omega) (by omega)
                      rw [show (((j - 1 : Nat) : Int)) = (j : Int) - 1 by omega] at hs
                      obtain ⟨wn, ewn⟩ : ∃ wqq, (wz.setCell ⟨blk, off + (j), none⟩ (enc dj[j - 1]!)).setCell ⟨blk, off + (j - 1), none⟩ (enc dj[j]!) = wqq := ⟨_, rfl⟩
                      have HAwn : Hid (RowAt enc w0 blk off size (swp dj (j) (j - 1)) wn) := by rw [← ewn]; exact HAwz.out.swapped (j) (j - 1) (by omega) (by omega)
                      have HGwn : Hid (W1.grownBy wn (some blk)) := by rw [← ewn]; exact grown_grown (grown_grown HGwz.out (grown_setCellS _ _ _)) (grown_setCellS _ _ _)
                      rw [ewn] at hs
                      have HSWwn := Lib.hid hs
                      clear hs ewn
                      go_wp2
                      rw [HSWwn.out, Oper.upon_value]
                      clear e1wn HSWwn

                      go_wp2
                      go_roundw
                      case rel => exact ⟨j - 1, _, _, by congr 1; omega, rfl, by omega, HAwn, HGwn, HDN⟩
                      case measure => simp [intOf]; omega
                    | false =>
                      have HDE : Hid (fixDown lt a k (swp dk k (k - 1)) = dj) := by unfold Hid; rw [← HDW.out, shiftDown_stop lt j dj (.inr h9)]
                      have hl := HS.out.less _ _ HAwy.out (j) (j - 1) (by omega) (by omega)
                      rw [h9, show (((j - 1 : Nat) : Int)) = (j : Int) - 1 by omega] at hl
                      have HLwz := Lib.hid hl
                      clear hl
                      have e0wz := box_grown HGwy.out HC0.out HNE.out
                      go_wp2_with (fail)
                      refine HLwz.out.mono ?_
                      rintro e wz ⟨rfl, hbwz⟩
                      have HAwz : Hid (RowAt enc w0 blk off size dj wz) := HAwy.out.below HS.out.low hbwz
                      have HGwz : Hid (W1.grownBy wz (some blk)) := grown_below HGwy.out hbwz
                      clear hbwz e0wz HLwz

                      clear h9

                      by_cases hbk2 : b - k ≥ 2
                      · have hbk2i : (b : Int) - (k : Int) ≥ 2 := by omega
                        go_wp2
                        go_loopw [10] (fun vj wr => ∃ (m : Nat) (dm : Array α) (wo : World), vj = .int .i64 m ∧ wo = wr ∧ k + 1 ≤ m ∧ m ≤ b ∧ Hid (RowAt enc w0 blk off size dm wo) ∧ Hid (W1.grownBy wo (some blk)) ∧ Hid (shiftUp lt b m dm = fixUp lt b k dj)) (fun vj _ => b - (intOf vj).toNat)
                        case atStart => exact ⟨k + 1, _, _, by go_num, rfl, by omega, by omega, HAwz, HGwz, by unfold Hid fixUp; rw [if_pos hbk2]⟩
                        case round =>
                          obtain ⟨m, dm, wp, rfl, rfl, hmk, hmb, HAwp, HGwp, HUP⟩ := hrel
                          by_cases h7 : m < b
                          · have h7i : (m : Int) < (b : Int) := by omega
                            cases h8 : lt dm[m]! dm[m - 1]! with
                            | true =>
                              have HUN : Hid (shiftUp lt b (m + 1) (swp dm m (m - 1)) = fixUp lt b k dj) := by unfold Hid; rw [← HUP.out, shiftUp_go lt b m dm h7 h8]
                              have hl := HS.out.less _ _ HAwp.out (m) (m - 1) (by omega) (by omega)
                              rw [h8, show (((m - 1 : Nat) : Int)) = (m : Int) - 1 by omega] at hl
                              have HLwq := Lib.hid hl
                              clear hl
                              have e0wq := box_grown HGwp.out HC0.out HNE.out
                              go_wp2_with (fail)
                              refine HLwq.out.mono ?_
                              rintro e wq ⟨rfl, hbwq⟩
                              have HAwq : Hid (RowAt enc w0 blk off size dm wq) := HAwp.out.below HS.out.low hbwq
                              have HGwq : Hid (W1.grownBy wq (some blk)) := grown_below HGwp.out hbwq
                              clear hbwq e0wq HLwq

                              clear h8

                              have e1wt := box_grown HGwq.out HC1.out HNE.out
                              have hs := HS.out.swap wq dm HAwq.out.holds HAwq.out.size (m) (m - 1) (by omega) (by omega)
                              rw [show (((m - 1 : Nat) : Int)) = (m : Int) - 1 by omega] at hs
                              obtain ⟨wt, ewt⟩ : ∃ wqq, (wq.setCell ⟨blk, off + (m), none⟩ (enc dm[m - 1]!)).setCell ⟨blk, off + (m - 1), none⟩ (enc dm[m]!) = wqq := ⟨_, rfl⟩
                              have HAwt : Hid (RowAt enc w0 blk off size (swp dm (m) (m - 1)) wt) := by rw [← ewt]; exact HAwq.out.swapped (m) (m - 1) (by omega) (by omega)
                              have HGwt : Hid (W1.grownBy wt (some blk)) := by rw [← ewt]; exact grown_grown (grown_grown HGwq.out (grown_setCellS _ _ _)) (grown_setCellS _ _ _)
                              rw [ewt] at hs
                              have HSWwt := Lib.hid hs
                              clear hs ewt
                              go_wp2
                              rw [HSWwt.out, Oper.upon_value]
                              clear e1wt HSWwt

                              go_wp2
                              go_roundw
                              case rel => exact ⟨m + 1, _, _, by go_num, rfl, by omega, by omega, HAwt, HGwt, HUN⟩
                              case measure => simp [intOf]; omega
                            | false =>
                              have HUE : Hid (fixUp lt b k dj = dm) := by unfold Hid; rw [← HUP.out, shiftUp_stop lt b m dm (.inr h8)]
                              have hl := HS.out.less _ _ HAwp.out (m) (m - 1) (by omega) (by omega)
                              rw [h8, show (((m - 1 : Nat) : Int)) = (m : Int) - 1 by omega] at hl
                              have HLwq := Lib.hid hl
                              clear hl
                              have e0wq := box_grown HGwp.out HC0.out HNE.out
                              go_wp2_with (fail)
                              refine HLwq.out.mono ?_
                              rintro e wq ⟨rfl, hbwq⟩
                              have HAwq : Hid (RowAt enc w0 blk off size dm wq) := HAwp.out.below HS.out.low hbwq
                              have HGwq : Hid (W1.grownBy wq (some blk)) := grown_below HGwp.out hbwq
                              clear hbwq e0wq HLwq

                              clear h8
                              go_wp2

                              go_roundw
                              case rel => exact ⟨k, s + 1, _, _, rfl, by go_num, rfl, by omega, by omega, by omega, HAwq, HGwq, by unfold Hid; rw [← HO.out, pi_go lt a b s i k dk hs HK.out hkb0 h50, HDE.out, HUE.out]⟩
                              case measure => simp [intOf]; omega
                          · have h7i : ¬ (m : Int) < (b : Int) := by omega
                            have HUE : Hid (fixUp lt b k dj = dm) := by unfold Hid; rw [← HUP.out, shiftUp_stop lt b m dm (.inl h7)]
                            go_wp2
                            go_roundw
                            case rel => exact ⟨k, s + 1, _, _, rfl, by go_num, rfl, by omega, by omega, by omega, HAwp, HGwp, by unfold Hid; rw [← HO.out, pi_go lt a b s i k dk hs HK.out hkb0 h50, HDE.out, HUE.out]⟩
                            case measure => simp [intOf]; omega
                      · have hbk2i : ¬ (b : Int) - (k : Int) ≥ 2 := by omega
                        have HUE : Hid (fixUp lt b k dj = dj) := by unfold Hid fixUp; rw [if_neg hbk2]
                        go_wp2
                        go_roundw
                        case rel => exact ⟨k, s + 1, _, _, rfl, by go_num, rfl, by omega, by omega, by omega, HAwz, HGwz, by unfold Hid; rw [← HO.out, pi_go lt a b s i k dk hs HK.out hkb0 h50, HDE.out, HUE.out]⟩
                        case measure => simp [intOf]; omega
                  · have h6i : ¬ 1 ≤ (j : Int) := by omega
                    have HDE : Hid (fixDown lt a k (swp dk k (k - 1)) = dj) := by unfold Hid; rw [← HDW.out, shiftDown_stop lt j dj (.inl (by omega))]
                    by_cases hbk2 : b - k ≥ 2
                    · have hbk2i : (b : Int) - (k : Int) ≥ 2 := by omega
                      go_wp2
                      go_loopw [10] (fun vj wr => ∃ (m : Nat) (dm : Array α) (wo : World), vj = .int .i64 m ∧ wo = wr ∧ k + 1 ≤ m ∧ m ≤ b ∧ Hid (RowAt enc w0 blk off size dm wo) ∧ Hid (W1.grownBy wo (some blk)) ∧ Hid (shiftUp lt b m dm = fixUp lt b k dj)) (fun vj _ => b - (intOf vj).toNat)
                      case atStart => exact ⟨k + 1, _, _, by go_num, rfl, by omega, by omega, HAwy, HGwy, by unfold Hid fixUp; rw [if_pos hbk2]⟩
                      case round =>
                        obtain ⟨m, dm, wp, rfl, rfl, hmk, hmb, HAwp, HGwp, HUP⟩ := hrel
                        by_cases h7 : m < b
                        · have h7i : (m : Int) < (b : Int) := by omega
                          cases h8 : lt dm[m]! dm[m - 1]! with
                          | true =>
                            have HUN : Hid (shiftUp lt b (m + 1) (swp dm m (m - 1)) = fixUp lt b k dj) := by unfold Hid; rw [← HUP.out, shiftUp_go lt b m dm h7 h8]
                            have hl := HS.out.less _ _ HAwp.out (m) (m - 1) (by omega) (by omega)
                            rw [h8, show (((m - 1 : Nat) : Int)) = (m : Int) - 1 by omega] at hl
                            have HLwq := Lib.hid hl
                            clear hl
                            have e0wq := box_grown HGwp.out HC0.out HNE.out
                            go_wp2_with (fail)
                            refine HLwq.out.mono ?_
                            rintro e wq ⟨rfl, hbwq⟩
                            have HAwq : Hid (RowAt enc w0 blk off size dm wq) := HAwp.out.below HS.out.low hbwq
                            have HGwq : Hid (W1.grownBy wq (some blk)) := grown_below HGwp.out hbwq
                            clear hbwq e0wq HLwq

                            clear h8

                            have e1wt := box_grown HGwq.out HC1.out HNE.out
                            have hs := HS.out.swap wq dm HAwq.out.holds HAwq.out.size (m) (m - 1) (by omega) (by omega)
                            rw [show (((m - 1 : Nat) : Int)) = (m : Int) - 1 by omega] at hs
                            obtain ⟨wt, ewt⟩ : ∃ wqq, (wq.setCell ⟨blk, off + (m), none⟩ (enc dm[m - 1]!)).setCell ⟨blk, off + (m - 1), none⟩ (enc dm[m]!) = wqq := ⟨_, rfl⟩
                            have HAwt : Hid (RowAt enc w0 blk off size (swp dm (m) (m - 1)) wt) := by rw [← ewt]; exact HAwq.out.swapped (m) (m - 1) (by omega) (by omega)
                            have HGwt : Hid (W1.grownBy wt (some blk)) := by rw [← ewt]; exact grown_grown (grown_grown HGwq.out (grown_setCellS _ _ _)) (grown_setCellS _ _ _)
                            rw [ewt] at hs
                            have HSWwt := Lib.hid hs
                            clear hs ewt
                            go_wp2
                            rw [HSWwt.out, Oper.upon_value]
                            clear e1wt HSWwt

                            go_wp2
                            go_roundw
                            case rel => exact ⟨m + 1, _, _, by go_num, rfl, by omega, by omega, HAwt, HGwt, HUN⟩
                            case measure => simp [intOf]; omega
                          | false =>
                            have HUE : Hid (fixUp lt b k dj = dm) := by unfold Hid; rw [← HUP.out, shiftUp_stop lt b m dm (.inr h8)]
                            have hl := HS.out.less _ _ HAwp.out (m) (m - 1) (by omega) (by omega)
                            rw [h8, show (((m - 1 : Nat) : Int)) = (m : Int) - 1 by omega] at hl
                            have HLwq := Lib.hid hl
                            clear hl
                            have e0wq := box_grown HGwp.out HC0.out HNE.out
                            go_wp2_with (fail)
                            refine HLwq.out.mono ?_
                            rintro e wq ⟨rfl, hbwq⟩
                            have HAwq : Hid (RowAt enc w0 blk off size dm wq) := HAwp.out.below HS.out.low hbwq
                            have HGwq : Hid (W1.grownBy wq (some blk)) := grown_below HGwp.out hbwq
                            clear hbwq e0wq HLwq

                            clear h8
                            go_wp2

                            go_roundw
                            case rel => exact ⟨k, s + 1, _, _, rfl, by go_num, rfl, by omega, by omega, by omega, HAwq, HGwq, by unfold Hid; rw [← HO.out, pi_go lt a b s i k dk hs HK.out hkb0 h50, HDE.out, HUE.out]⟩
                            case measure => simp [intOf]; omega
                        · have h7i : ¬ (m : Int) < (b : Int) := by omega
                          have HUE : Hid (fixUp lt b k dj = dm) := by unfold Hid; rw [← HUP.out, shiftUp_stop lt b m dm (.inl h7)]
                          go_wp2
                          go_roundw
                          case rel => exact ⟨k, s + 1, _, _, rfl, by go_num, rfl, by omega, by omega, by omega, HAwp, HGwp, by unfold Hid; rw [← HO.out, pi_go lt a b s i k dk hs HK.out hkb0 h50, HDE.out, HUE.out]⟩
                          case measure => simp [intOf]; omega
                    · have hbk2i : ¬ (b : Int) - (k : Int) ≥ 2 := by omega
                      have HUE : Hid (fixUp lt b k dj = dj) := by unfold Hid fixUp; rw [if_neg hbk2]
                      go_wp2
                      go_roundw
                      case rel => exact ⟨k, s + 1, _, _, rfl, by go_num, rfl, by omega, by omega, by omega, HAwy, HGwy, by unfold Hid; rw [← HO.out, pi_go lt a b s i k dk hs HK.out hkb0 h50, HDE.out, HUE.out]⟩
                      case measure => simp [intOf]; omega
              · have hkai : ¬ (k : Int) - (a : Int) ≥ 2 := by omega
                have HDE : Hid (fixDown lt a k (swp dk k (k - 1)) = swp dk k (k - 1)) := by unfold Hid fixDown; rw [if_neg hka]
                by_cases hbk2 : b - k ≥ 2
                · have hbk2i : (b : Int) - (k : Int) ≥ 2 := by omega
                  go_wp2
                  go_loopw [10] (fun vj wr => ∃ (m : Nat) (dm : Array α) (wo : World), vj = .int .i64 m ∧ wo = wr ∧ k + 1 ≤ m ∧ m ≤ b ∧ Hid (RowAt enc w0 blk off size dm wo) ∧ Hid (W1.grownBy wo (some blk)) ∧ Hid (shiftUp lt b m dm = fixUp lt b k (swp dk k (k - 1)))) (fun vj _ => b - (intOf vj).toNat)
                  case atStart => exact ⟨k + 1, _, _, by go_num, rfl, by omega, by omega, HAwx, HGwx, by unfold Hid fixUp; rw [if_pos hbk2]⟩
                  case round =>
                    obtain ⟨m, dm, wp, rfl, rfl, hmk, hmb, HAwp, HGwp, HUP⟩ := hrel
                    by_cases h7 : m < b
                    · have h7i : (m : Int) < (b : Int) := by omega
                      cases h8 : lt dm[m]! dm[m - 1]! with
                      | true =>
                        have HUN : Hid (shiftUp lt b (m + 1) (swp dm m (m - 1)) = fixUp lt b k (swp dk k (k - 1))) := by unfold Hid; rw [← HUP.out, shiftUp_go lt b m dm h7 h8]
                        have hl := HS.out.less _ _ HAwp.out (m) (m - 1) (by omega) (by omega)
                        rw [h8, show (((m - 1 : Nat) : Int)) = (m : Int) - 1 by omega] at hl
                        have HLwq := Lib.hid hl
                        clear hl
                        have e0wq := box_grown HGwp.out HC0.out HNE.out
                        go_wp2_with (fail)
                        refine HLwq.out.mono ?_
                        rintro e wq ⟨rfl, hbwq⟩
                        have HAwq : Hid (RowAt enc w0 blk off size dm wq) := HAwp.out.below HS.out.low hbwq
                        have HGwq : Hid (W1.grownBy wq (some blk)) := grown_below HGwp.out hbwq
                        clear hbwq e0wq HLwq

                        clear h8

                        have e1wt := box_grown HGwq.out HC1.out HNE.out
                        have hs := HS.out.swap wq dm HAwq.out.holds HAwq.out.size (m) (m - 1) (by omega) (by omega)
                        rw [show (((m - 1 : Nat) : Int)) = (m : Int) - 1 by omega] at hs
                        obtain ⟨wt, ewt⟩ : ∃ wqq, (wq.setCell ⟨blk, off + (m), none⟩ (enc dm[m - 1]!)).setCell ⟨blk, off + (m - 1), none⟩ (enc dm[m]!) = wqq := ⟨_, rfl⟩
                        have HAwt : Hid (RowAt enc w0 blk off size (swp dm (m) (m - 1)) wt) := by rw [← ewt]; exact HAwq.out.swapped (m) (m - 1) (by omega) (by omega)
                        have HGwt : Hid (W1.grownBy wt (some blk)) := by rw [← ewt]; exact grown_grown (grown_grown HGwq.out (grown_setCellS _ _ _)) (grown_setCellS _ _ _)
                        rw [ewt] at hs
                        have HSWwt := Lib.hid hs
                        clear hs ewt
                        go_wp2
                        rw [HSWwt.out, Oper.upon_value]
                        clear e1wt HSWwt

                        go_wp2
                        go_roundw
                        case rel => exact ⟨m + 1, _, _, by go_num, rfl, by omega, by omega, HAwt, HGwt, HUN⟩
                        case measure => simp [intOf]; omega
                      | false =>
                        have HUE : Hid (fixUp lt b k (swp dk k (k - 1)) = dm) := by unfold Hid; rw [← HUP.out, shiftUp_stop lt b m dm (.inr h8)]
                        have hl := HS.out.less _ _ HAwp.out (m) (m - 1) (by omega) (by omega)
                        rw [h8, show (((m - 1 : Nat) : Int)) = (m : Int) - 1 by omega] at hl
                        have HLwq := Lib.hid hl
                        clear hl
                        have e0wq := box_grown HGwp.out HC0.out HNE.out
                        go_wp2_with (fail)
                        refine HLwq.out.mono ?_
                        rintro e wq ⟨rfl, hbwq⟩
                        have HAwq : Hid (RowAt enc w0 blk off size dm wq) := HAwp.out.below HS.out.low hbwq
                        have HGwq : Hid (W1.grownBy wq (some blk)) := grown_below HGwp.out hbwq
                        clear hbwq e0wq HLwq

                        clear h8
                        go_wp2

                        go_roundw
                        case rel => exact ⟨k, s + 1, _, _, rfl, by go_num, rfl, by omega, by omega, by omega, HAwq, HGwq, by unfold Hid; rw [← HO.out, pi_go lt a b s i k dk hs HK.out hkb0 h50, HDE.out, HUE.out]⟩
                        case measure => simp [intOf]; omega
                    · have h7i : ¬ (m : Int) < (b : Int) := by omega
                      have HUE : Hid (fixUp lt b k (swp dk k (k - 1)) = dm) := by unfold Hid; rw [← HUP.out, shiftUp_stop lt b m dm (.inl h7)]
                      go_wp2
                      go_roundw
                      case rel => exact ⟨k, s + 1, _, _, rfl, by go_num, rfl, by omega, by omega, by omega, HAwp, HGwp, by unfold Hid; rw [← HO.out, pi_go lt a b s i k dk hs HK.out hkb0 h50, HDE.out, HUE.out]⟩
                      case measure => simp [intOf]; omega
                · have hbk2i : ¬ (b : Int) - (k : Int) ≥ 2 := by omega
                  have HUE : Hid (fixUp lt b k (swp dk k (k - 1)) = (swp dk k (k - 1))) := by unfold Hid fixUp; rw [if_neg hbk2]
                  go_wp2
                  go_roundw
                  case rel => exact ⟨k, s + 1, _, _, rfl, by go_num, rfl, by omega, by omega, by omega, HAwx, HGwx, by unfold Hid; rw [← HO.out, pi_go lt a b s i k dk hs HK.out hkb0 h50, HDE.out, HUE.out]⟩
                  case measure => simp [intOf]; omega
        · have h4i : ¬ (k : Int) < (b : Int) := by omega
          obtain rfl : k = b := by omega
          have HE : Hid (partialInsertionSort lt d a k = (dk, true)) := by unfold Hid; rw [← HO.out, pi_true lt a k s i dk hs (by rw [← HSC.out, scanSorted_stop lt dk k k (.inl h4)])]
          go_wp2
          refine bodyPost_ret (v := .bool true) ?_ rfl ⟨by rw [HE.out], by rw [HE.out]; exact HAwu.out, grown_grown HG1.out HGwu.out⟩
          simp [results, Tryz.results121, go_sem]
    · have hsi : ¬ (s : Int) < 5 := by omega
      obtain rfl : s = 5 := by omega
      have HE : Hid (partialInsertionSort lt d a b = (dk, false)) := by unfold Hid; rw [← HO.out, pi_end lt a b i dk]
      go_wp2
      refine bodyPost_ret (v := .bool false) ?_ rfl ⟨by rw [HE.out], by rw [HE.out]; exact HAwo.out, grown_grown HG1.out HGwo.out⟩
      simp [results, Tryz.results121, go_sem]
end
end Go.Proofs.YtcgihpfanfbonaaGreatDoor
