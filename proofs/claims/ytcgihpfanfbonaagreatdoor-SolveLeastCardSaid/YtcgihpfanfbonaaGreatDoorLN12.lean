/-
  sort.siftDown_func, sort.reverseRange_func under a less that lays blocks.
-/
import Derived.Test.YtcgihpfanfbonaaGreatDoorLN11
namespace Go.Proofs.YtcgihpfanfbonaaGreatDoor
open Go.RowKit Go.Sort
set_option linter.unusedVariables false
set_option linter.unusedSimpArgs false
section
variable {α : Type} [Inhabited α] {enc : α → Value} {lt : α → α → Bool} {g sf blk off size : Nat} {lb sb : Array Value} {w0 : World}

theorem siftDown_at (hi first root : Nat) (d : Array α) (h : ¬ 2 * root + 1 < hi) : siftDown lt hi first root d = d := by rw [siftDown, dif_pos (by omega)]
theorem siftDown_two (hi first root : Nat) (d : Array α) (h : 2 * root + 1 + 1 < hi) (hl : lt d[first + (2 * root + 1)]! d[first + (2 * root + 1) + 1]! = true) :
    siftDown lt hi first root d = if (!lt d[first + root]! d[first + (2 * root + 2)]!) = true then d else siftDown lt hi first (2 * root + 2) (swp d (first + root) (first + (2 * root + 2))) := by
  rw [siftDown, dif_neg (by omega), if_pos (by rw [hl, decide_eq_true h]; rfl)]
  split
  · rfl
  · first | rfl | rw [dif_pos (by omega)]
theorem siftDown_one (hi first root : Nat) (d : Array α) (h : 2 * root + 1 < hi) (hl : ¬ 2 * root + 1 + 1 < hi ∨ lt d[first + (2 * root + 1)]! d[first + (2 * root + 1) + 1]! = false) :
    siftDown lt hi first root d = if (!lt d[first + root]! d[first + (2 * root + 1)]!) = true then d else siftDown lt hi first (2 * root + 1) (swp d (first + root) (first + (2 * root + 1))) := by
  rw [siftDown, dif_neg (by omega), if_neg (by
    rcases hl with hl | hl
    · rw [decide_eq_false hl]; simp
    · rw [hl]; simp)]

set_option maxHeartbeats 2000000 in
set_option maxRecDepth 100000 in
theorem siftF_calls (S : Sorter enc lt g lb sf sb w0 blk off size) (lo hi first : Nat) (d : Array α) (W : World) (hA : RowAt enc w0 blk off size d W) (hf : first + hi ≤ size) (hlo : lo ≤ size) :
    Calls Tryz.prog 157 #[.agg #[.func (.func g) #[] lb, .func (.func sf) #[] sb], .int .i64 lo, .int .i64 hi, .int .i64 first] W fun e w' =>
      e = .returned (.tuple #[]) ∧ RowAt enc w0 blk off size (siftDown lt hi first lo d) w' ∧ W.grownBy w' (some blk) := by
  obtain ⟨W1, eW⟩ : ∃ W1, W.alloc (.cells #[.func (.func g) #[] lb, .func (.func sf) #[] sb] 130) = W1 := ⟨_, rfl⟩
  obtain ⟨z1, hW, m1⟩ := boxes1 eW
  have c0 := m1 0
  have c1 := m1 1
  simp only [List.getElem?_toArray, List.getElem?_cons_zero, List.getElem?_cons_succ] at c0 c1
  have hbk : blk < W.heap.size := hA.there S.low
  have HA1 : Hid (RowAt enc w0 blk off size d W1) := hA.below S.low hW
  have HG1 : Hid (W.grownBy W1 (some blk)) := grown_below (World.grownBy.refl _ _) hW
  have HNE : Hid (W.heap.size ≠ blk) := by unfold Hid; omega
  have HS := Lib.hid S
  have hsm := S.small
  have eg := S.eg
  have HC0 := Lib.hid c0
  have HC1 := Lib.hid c1
  clear m1 z1 hW c0 c1 S hA
  go_enter Tryz.func157, Tryz.ntmps157
  go_wp2
  go_loopw [8] (fun vi wr => ∃ (root : Nat) (dk : Array α) (wo : World), vi = .int .i64 root ∧ wo = wr ∧ root ≤ size ∧ Hid (RowAt enc w0 blk off size dk wo) ∧ Hid (W1.grownBy wo (some blk)) ∧ Hid (siftDown lt hi first root dk = siftDown lt hi first lo d)) (fun vi _ => hi - (intOf vi).toNat)
  case atStart => exact ⟨lo, d, _, rfl, rfl, hlo, HA1, World.grownBy.refl _ _, rfl⟩
  case round =>
    obtain ⟨root, dk, WQ, rfl, rfl, hroot, HAQ, HGQ, HO⟩ := hrel
    by_cases h1 : 2 * root + 1 < hi
    · have h1i : 2 * (root : Int) + 1 < (hi : Int) := by omega
      by_cases h12 : 2 * root + 1 + 1 < hi
      · have h12i : 2 * (root : Int) + 1 + 1 < (hi : Int) := by omega
        cases h0 : lt dk[first + (2 * root + 1)]! dk[first + (2 * root + 1) + 1]! with
        | true =>
          have HSTEP := Lib.hid (siftDown_two hi first root dk h12 h0)
          have hl := HS.out.less _ _ HAQ.out (first + (2 * root + 1)) (first + (2 * root + 1) + 1) (by omega) (by omega)
          rw [h0, show (((first + (2 * root + 1) : Nat) : Int)) = (first : Int) + (2 * (root : Int) + 1) by omega, show (((first + (2 * root + 1) + 1 : Nat) : Int)) = (first : Int) + (2 * (root : Int) + 1) + 1 by omega] at hl
          have HLw2 := Lib.hid hl
          clear hl
          have e0w2 := box_grown HGQ.out HC0.out HNE.out
          go_wp2_with (fail)
          refine HLw2.out.mono ?_
          rintro e w2 ⟨rfl, hbw2⟩
          have HAw2 : Hid (RowAt enc w0 blk off size dk w2) := HAQ.out.below HS.out.low hbw2
          have HGw2 : Hid (W1.grownBy w2 (some blk)) := grown_below HGQ.out hbw2
          clear hbw2 e0w2 HLw2

          clear h0

          cases h2 : lt dk[first + root]! dk[first + (2 * root + 2)]! with
          | true =>
            have HST : Hid (siftDown lt hi first (2 * root + 2) (swp dk (first + root) (first + (2 * root + 2))) = siftDown lt hi first lo d) := by unfold Hid; rw [← HO.out, HSTEP.out, h2]; rfl
            have hl := HS.out.less _ _ HAw2.out (first + root) (first + (2 * root + 2)) (by omega) (by omega)
            rw [h2, show (((first + root : Nat) : Int)) = (first : Int) + (root : Int) by omega, show (((first + (2 * root + 2) : Nat) : Int)) = (first : Int) + (2 * (root : Int) + 1 + 1) by omega] at hl
            have HLw3 := Lib.hid hl
            clear hl
            have e0w3 := box_grown HGw2.out HC0.out HNE.out
            go_wp2_with (fail)
            refine HLw3.out.mono ?_
            rintro e w3 ⟨rfl, hbw3⟩
            have HAw3 : Hid (RowAt enc w0 blk off size dk w3) := HAw2.out.below HS.out.low hbw3
            have HGw3 : Hid (W1.grownBy w3 (some blk)) := grown_below HGw2.out hbw3
            clear hbw3 e0w3 HLw3

            clear h2

            have e1w4 := box_grown HGw3.out HC1.out HNE.out
            have hs := HS.out.swap w3 dk HAw3.out.holds HAw3.out.size (first + root) (first + (2 * root + 2)) (by omega) (by omega)
            rw [show (((first + root : Nat) : Int)) = (first : Int) + (root : Int) by omega, show (((first + (2 * root + 2) : Nat) : Int)) = (first : Int) + (2 * (root : Int) + 1 + 1) by omega] at hs
            obtain ⟨w4, ew4⟩ : ∃ wqq, (w3.setCell ⟨blk, off + (first + root), none⟩ (enc dk[first + (2 * root + 2)]!)).setCell ⟨blk, off + (first + (2 * root + 2)), none⟩ (enc dk[first + root]!) = wqq := ⟨_, rfl⟩
            have HAw4 : Hid (RowAt enc w0 blk off size (swp dk (first + root) (first + (2 * root + 2))) w4) := by rw [← ew4]; exact HAw3.out.swapped (first + root) (first + (2 * root + 2)) (by omega) (by omega)
            have HGw4 : Hid (W1.grownBy w4 (some blk)) := by rw [← ew4]; exact grown_grown (grown_grown HGw3.out (grown_setCellS _ _ _)) (grown_setCellS _ _ _)
            rw [ew4] at hs
            have HSWw4 := Lib.hid hs
            clear hs ew4
            go_wp2
            rw [HSWw4.out, Oper.upon_value]
            clear e1w4 HSWw4

            go_wp2
            go_roundw
            case rel => exact ⟨2 * root + 2, _, _, by go_num, rfl, by omega, HAw4, HGw4, HST⟩
            case measure => simp [intOf]; omega

          | false =>
            have HST : Hid (siftDown lt hi first lo d = dk) := by unfold Hid; rw [← HO.out, HSTEP.out, h2]; rfl
            have hl := HS.out.less _ _ HAw2.out (first + root) (first + (2 * root + 2)) (by omega) (by omega)
            rw [h2, show (((first + root : Nat) : Int)) = (first : Int) + (root : Int) by omega, show (((first + (2 * root + 2) : Nat) : Int)) = (first : Int) + (2 * (root : Int) + 1 + 1) by omega] at hl
            have HLw3 := Lib.hid hl
            clear hl
            have e0w3 := box_grown HGw2.out HC0.out HNE.out
            go_wp2_with (fail)
            refine HLw3.out.mono ?_
            rintro e w3 ⟨rfl, hbw3⟩
            have HAw3 : Hid (RowAt enc w0 blk off size dk w3) := HAw2.out.below HS.out.low hbw3
            have HGw3 : Hid (W1.grownBy w3 (some blk)) := grown_below HGw2.out hbw3
            clear hbw3 e0w3 HLw3

            clear h2
            go_wp2
            refine bodyPost_ret (v := .tuple #[]) ?_ rfl ⟨rfl, by rw [HST.out]; exact HAw3.out, grown_grown HG1.out HGw3.out⟩
            simp [results, Tryz.results157, go_sem]
        | false =>
          have HSTEP := Lib.hid (siftDown_one hi first root dk h1 (.inr h0))
          have hl := HS.out.less _ _ HAQ.out (first + (2 * root + 1)) (first + (2 * root + 1) + 1) (by omega) (by omega)
          rw [h0, show (((first + (2 * root + 1) : Nat) : Int)) = (first : Int) + (2 * (root : Int) + 1) by omega, show (((first + (2 * root + 1) + 1 : Nat) : Int)) = (first : Int) + (2 * (root : Int) + 1) + 1 by omega] at hl
          have HLw2 := Lib.hid hl
          clear hl
          have e0w2 := box_grown HGQ.out HC0.out HNE.out
          go_wp2_with (fail)
          refine HLw2.out.mono ?_
          rintro e w2 ⟨rfl, hbw2⟩
          have HAw2 : Hid (RowAt enc w0 blk off size dk w2) := HAQ.out.below HS.out.low hbw2
          have HGw2 : Hid (W1.grownBy w2 (some blk)) := grown_below HGQ.out hbw2
          clear hbw2 e0w2 HLw2

          clear h0

          cases h2 : lt dk[first + root]! dk[first + (2 * root + 1)]! with
          | true =>
            have HST : Hid (siftDown lt hi first (2 * root + 1) (swp dk (first + root) (first + (2 * root + 1))) = siftDown lt hi first lo d) := by unfold Hid; rw [← HO.out, HSTEP.out, h2]; rfl
            have hl := HS.out.less _ _ HAw2.out (first + root) (first + (2 * root + 1)) (by omega) (by omega)
            rw [h2, show (((first + root : Nat) : Int)) = (first : Int) + (root : Int) by omega, show (((first + (2 * root + 1) : Nat) : Int)) = (first : Int) + (2 * (root : Int) + 1) by omega] at hl
            have HLw3 := Lib.hid hl
            clear hl
            have e0w3 := box_grown HGw2.out HC0.out HNE.out
            go_wp2_with (fail)
            refine HLw3.out.mono ?_
            rintro e w3 ⟨rfl, hbw3⟩
            have HAw3 : Hid (RowAt enc w0 blk off size dk w3) := HAw2.out.below HS.out.low hbw3
            have HGw3 : Hid (W1.grownBy w3 (some blk)) := grown_below HGw2.out hbw3
            clear hbw3 e0w3 HLw3

            clear h2

            have e1w4 := box_grown HGw3.out HC1.out HNE.out
            have hs := HS.out.swap w3 dk HAw3.out.holds HAw3.out.size (first + root) (first + (2 * root + 1)) (by omega) (by omega)
            rw [show (((first + root : Nat) : Int)) = (first : Int) + (root : Int) by omega, show (((first + (2 * root + 1) : Nat) : Int)) = (first : Int) + (2 * (root : Int) + 1) by omega] at hs
            obtain ⟨w4, ew4⟩ : ∃ wqq, (w3.setCell ⟨blk, off + (first + root), none⟩ (enc dk[first + (2 * root + 1)]!)).setCell ⟨blk, off + (first + (2 * root + 1)), none⟩ (enc dk[first + root]!) = wqq := ⟨_, rfl⟩
            have HAw4 : Hid (RowAt enc w0 blk off size (swp dk (first + root) (first + (2 * root + 1))) w4) := by rw [← ew4]; exact HAw3.out.swapped (first + root) (first + (2 * root + 1)) (by omega) (by omega)
            have HGw4 : Hid (W1.grownBy w4 (some blk)) := by rw [← ew4]; exact grown_grown (grown_grown HGw3.out (grown_setCellS _ _ _)) (grown_setCellS _ _ _)
            rw [ew4] at hs
            have HSWw4 := Lib.hid hs
            clear hs ew4
            go_wp2
            rw [HSWw4.out, Oper.upon_value]
            clear e1w4 HSWw4

            go_wp2
            go_roundw
            case rel => exact ⟨2 * root + 1, _, _, by go_num, rfl, by omega, HAw4, HGw4, HST⟩
            case measure => simp [intOf]; omega

          | false =>
            have HST : Hid (siftDown lt hi first lo d = dk) := by unfold Hid; rw [← HO.out, HSTEP.out, h2]; rfl
            have hl := HS.out.less _ _ HAw2.out (first + root) (first + (2 * root + 1)) (by omega) (by omega)
            rw [h2, show (((first + root : Nat) : Int)) = (first : Int) + (root : Int) by omega, show (((first + (2 * root + 1) : Nat) : Int)) = (first : Int) + (2 * (root : Int) + 1) by omega] at hl
            have HLw3 := Lib.hid hl
            clear hl
            have e0w3 := box_grown HGw2.out HC0.out HNE.out
            go_wp2_with (fail)
            refine HLw3.out.mono ?_
            rintro e w3 ⟨rfl, hbw3⟩
            have HAw3 : Hid (RowAt enc w0 blk off size dk w3) := HAw2.out.below HS.out.low hbw3
            have HGw3 : Hid (W1.grownBy w3 (some blk)) := grown_below HGw2.out hbw3
            clear hbw3 e0w3 HLw3

            clear h2
            go_wp2
            refine bodyPost_ret (v := .tuple #[]) ?_ rfl ⟨rfl, by rw [HST.out]; exact HAw3.out, grown_grown HG1.out HGw3.out⟩
            simp [results, Tryz.results157, go_sem]
      · have h12i : ¬ 2 * (root : Int) + 1 + 1 < (hi : Int) := by omega
        have HSTEP := Lib.hid (siftDown_one (lt := lt) hi first root dk h1 (.inl h12))
        cases h2 : lt dk[first + root]! dk[first + (2 * root + 1)]! with
        | true =>
          have HST : Hid (siftDown lt hi first (2 * root + 1) (swp dk (first + root) (first + (2 * root + 1))) = siftDown lt hi first lo d) := by unfold Hid; rw [← HO.out, HSTEP.out, h2]; rfl
          have hl := HS.out.less _ _ HAQ.out (first + root) (first + (2 * root + 1)) (by omega) (by omega)
          rw [h2, show (((first + root : Nat) : Int)) = (first : Int) + (root : Int) by omega, show (((first + (2 * root + 1) : Nat) : Int)) = (first : Int) + (2 * (root : Int) + 1) by omega] at hl
          have HLw3 := Lib.hid hl
          clear hl
          have e0w3 := box_grown HGQ.out HC0.out HNE.out
          go_wp2_with (fail)
          refine HLw3.out.mono ?_
          rintro e w3 ⟨rfl, hbw3⟩
          have HAw3 : Hid (RowAt enc w0 blk off size dk w3) := HAQ.out.below HS.out.low hbw3
          have HGw3 : Hid (W1.grownBy w3 (some blk)) := grown_below HGQ.out hbw3
          clear hbw3 e0w3 HLw3

          clear h2

          have e1w4 := box_grown HGw3.out HC1.out HNE.out
          have hs := HS.out.swap w3 dk HAw3.out.holds HAw3.out.size (first + root) (first + (2 * root + 1)) (by omega) (by omega)
          rw [show (((first + root : Nat) : Int)) = (first : Int) + (root : Int) by omega, show (((first + (2 * root + 1) : Nat) : Int)) = (first : Int) + (2 * (root : Int) + 1) by omega] at hs
          obtain ⟨w4, ew4⟩ : ∃ wqq, (w3.setCell ⟨blk, off + (first + root), none⟩ (enc dk[first + (2 * root + 1)]!)).setCell ⟨blk, off + (first + (2 * root + 1)), none⟩ (enc dk[first + root]!) = wqq := ⟨_, rfl⟩
          have HAw4 : Hid (RowAt enc w0 blk off size (swp dk (first + root) (first + (2 * root + 1))) w4) := by rw [← ew4]; exact HAw3.out.swapped (first + root) (first + (2 * root + 1)) (by omega) (by omega)
          have HGw4 : Hid (W1.grownBy w4 (some blk)) := by rw [← ew4]; exact grown_grown (grown_grown HGw3.out (grown_setCellS _ _ _)) (grown_setCellS _ _ _)
          rw [ew4] at hs
          have HSWw4 := Lib.hid hs
          clear hs ew4
          go_wp2
          rw [HSWw4.out, Oper.upon_value]
          clear e1w4 HSWw4

          go_wp2
          go_roundw
          case rel => exact ⟨2 * root + 1, _, _, by go_num, rfl, by omega, HAw4, HGw4, HST⟩
          case measure => simp [intOf]; omega

        | false =>
          have HST : Hid (siftDown lt hi first lo d = dk) := by unfold Hid; rw [← HO.out, HSTEP.out, h2]; rfl
          have hl := HS.out.less _ _ HAQ.out (first + root) (first + (2 * root + 1)) (by omega) (by omega)
          rw [h2, show (((first + root : Nat) : Int)) = (first : Int) + (root : Int) by omega, show (((first + (2 * root + 1) : Nat) : Int)) = (first : Int) + (2 * (root : Int) + 1) by omega] at hl
          have HLw3 := Lib.hid hl
          clear hl
          have e0w3 := box_grown HGQ.out HC0.out HNE.out
          go_wp2_with (fail)
          refine HLw3.out.mono ?_
          rintro e w3 ⟨rfl, hbw3⟩
          have HAw3 : Hid (RowAt enc w0 blk off size dk w3) := HAQ.out.below HS.out.low hbw3
          have HGw3 : Hid (W1.grownBy w3 (some blk)) := grown_below HGQ.out hbw3
          clear hbw3 e0w3 HLw3

          clear h2
          go_wp2
          refine bodyPost_ret (v := .tuple #[]) ?_ rfl ⟨rfl, by rw [HST.out]; exact HAw3.out, grown_grown HG1.out HGw3.out⟩
          simp [results, Tryz.results157, go_sem]
    · have h1i : (hi : Int) ≤ 2 * (root : Int) + 1 := by omega
      have HST : Hid (siftDown lt hi first lo d = dk) := by unfold Hid; rw [← HO.out, siftDown_at _ _ _ _ h1]
      go_wp2
      go_end0
      exact ⟨rfl, by rw [HST.out]; exact HAQ.out, grown_grown HG1.out HGQ.out⟩

set_option maxHeartbeats 2000000 in
set_option maxRecDepth 100000 in
theorem revF_calls (S : Sorter enc lt g lb sf sb w0 blk off size) (a b : Nat) (d : Array α) (W : World) (hA : RowAt enc w0 blk off size d W) (hab : a < b) (hb : b ≤ size) :
    Calls Tryz.prog 120 #[.agg #[.func (.func g) #[] lb, .func (.func sf) #[] sb], .int .i64 a, .int .i64 b] W fun e w' =>
      e = .returned (.tuple #[]) ∧ RowAt enc w0 blk off size (reverseRange d a b) w' ∧ W.grownBy w' (some blk) := by
  obtain ⟨W1, eW⟩ : ∃ W1, W.alloc (.cells #[.func (.func g) #[] lb, .func (.func sf) #[] sb] 130) = W1 := ⟨_, rfl⟩
  obtain ⟨z1, hW, m1⟩ := boxes1 eW
  have c0 := m1 0
  have c1 := m1 1
  simp only [List.getElem?_toArray, List.getElem?_cons_zero, List.getElem?_cons_succ] at c0 c1
  have hbk : blk < W.heap.size := hA.there S.low
  have HA1 : Hid (RowAt enc w0 blk off size d W1) := hA.below S.low hW
  have HG1 : Hid (W.grownBy W1 (some blk)) := grown_below (World.grownBy.refl _ _) hW
  have HNE : Hid (W.heap.size ≠ blk) := by unfold Hid; omega
  have HS := Lib.hid S
  have hsm := S.small
  have eg := S.eg
  have HC0 := Lib.hid c0
  have HC1 := Lib.hid c1
  clear m1 z1 hW c0 c1 S hA
  go_enter Tryz.func120, Tryz.ntmps120
  go_wp2
  go_loopw [6, 7] (fun vi vj wr => ∃ (i j : Nat) (dk : Array α) (wo : World), vi = .int .i64 i ∧ vj = .int .i64 j ∧ wo = wr ∧ i ≤ j + 1 ∧ j < size ∧ Hid (RowAt enc w0 blk off size dk wo) ∧ Hid (W1.grownBy wo (some blk)) ∧ Hid (reverseLoop i j dk = reverseRange d a b)) (fun vi vj _ => (intOf vj).toNat + 1 - (intOf vi).toNat)
  case atStart => exact ⟨a, b - 1, d, _, rfl, by congr 1; omega, rfl, by omega, by omega, HA1, World.grownBy.refl _ _, rfl⟩
  case round =>
    obtain ⟨i, j, dk, WQ, rfl, rfl, rfl, hij, hj, HAQ, HGQ, HO⟩ := hrel
    by_cases h1 : i < j
    · have h1i : (i : Int) < (j : Int) := by omega
      have HST : Hid (reverseLoop (i + 1) (j - 1) (swp dk i j) = reverseRange d a b) := by unfold Hid; rw [← HO.out]; conv => rhs; rw [reverseLoop, if_pos h1]
      have e1w3 := box_grown HGQ.out HC1.out HNE.out
      have hs := HS.out.swap WQ dk HAQ.out.holds HAQ.out.size (i) (j) (by omega) (by omega)
      obtain ⟨w3, ew3⟩ : ∃ wqq, (WQ.setCell ⟨blk, off + (i), none⟩ (enc dk[j]!)).setCell ⟨blk, off + (j), none⟩ (enc dk[i]!) = wqq := ⟨_, rfl⟩
      have HAw3 : Hid (RowAt enc w0 blk off size (swp dk (i) (j)) w3) := by rw [← ew3]; exact HAQ.out.swapped (i) (j) (by omega) (by omega)
      have HGw3 : Hid (W1.grownBy w3 (some blk)) := by rw [← ew3]; exact grown_grown (grown_grown HGQ.out (grown_setCellS _ _ _)) (grown_setCellS _ _ _)
      rw [ew3] at hs
      have HSWw3 := Lib.hid hs
      clear hs ew3
      go_wp2
      rw [HSWw3.out, Oper.upon_value]
      clear e1w3 HSWw3
      go_wp2
      go_roundw
      case rel => exact ⟨i + 1, j - 1, _, _, by go_num, by congr 1; omega, rfl, by omega, by omega, HAw3, HGw3, HST⟩
      case measure => simp [intOf]; omega
    · have h1i : ¬ (i : Int) < (j : Int) := by omega
      have HST : Hid (reverseRange d a b = dk) := by unfold Hid; rw [← HO.out, reverseLoop, if_neg h1]
      go_wp2
      go_end0
      exact ⟨rfl, by rw [HST.out]; exact HAQ.out, grown_grown HG1.out HGQ.out⟩

set_option maxHeartbeats 2000000 in
set_option maxRecDepth 100000 in
theorem heapF_calls (S : Sorter enc lt g lb sf sb w0 blk off size) (a b : Nat) (d : Array α) (W : World) (hA : RowAt enc w0 blk off size d W) (hab : a < b) (hb : b ≤ size) :
    Calls Tryz.prog 117 #[.agg #[.func (.func g) #[] lb, .func (.func sf) #[] sb], .int .i64 a, .int .i64 b] W fun e w' =>
      e = .returned (.tuple #[]) ∧ RowAt enc w0 blk off size (heapSort lt d a b) w' ∧ W.grownBy w' (some blk) := by
  obtain ⟨W1, eW⟩ : ∃ W1, W.alloc (.cells #[.func (.func g) #[] lb, .func (.func sf) #[] sb] 130) = W1 := ⟨_, rfl⟩
  obtain ⟨z1, hW, m1⟩ := boxes1 eW
  have c0 := m1 0
  have c1 := m1 1
  simp only [List.getElem?_toArray, List.getElem?_cons_zero, List.getElem?_cons_succ] at c0 c1
  have hbk : blk < W.heap.size := hA.there S.low
  have HA1 : Hid (RowAt enc w0 blk off size d W1) := hA.below S.low hW
  have HG1 : Hid (W.grownBy W1 (some blk)) := grown_below (World.grownBy.refl _ _) hW
  have HNE : Hid (W.heap.size ≠ blk) := by unfold Hid; omega
  have HS := Lib.hid S
  have hsm := S.small
  have eg := S.eg
  have HC0 := Lib.hid c0
  have HC1 := Lib.hid c1
  clear m1 z1 hW c0 c1 S hA
  go_enter Tryz.func117, Tryz.ntmps117
  have hdiv : Int.tdiv ((b : Int) - (a : Int) - 1) 2 = (((b - a - 1) / 2 : Nat) : Int) := by
    rw [Int.tdiv_eq_ediv_of_nonneg (by omega)]; omega
  have hdiv2 : ((b : Int) - (a : Int) - 1) / 2 = (((b - a - 1) / 2 : Nat) : Int) := by omega
  go_wp2
  go_loopw [9] (fun vi wr => ∃ (k : Nat) (z : Int) (dk : Array α) (wo : World), vi = .int .i64 z ∧ z = (k : Int) - 1 ∧ wo = wr ∧ k ≤ size ∧ Hid (RowAt enc w0 blk off size dk wo) ∧ Hid (W1.grownBy wo (some blk)) ∧ Hid (heapBuild lt (b - a) a k dk = heapBuild lt (b - a) a ((b - a - 1) / 2 + 1) d)) (fun vi _ => (intOf vi + 1).toNat)
  case atStart => exact ⟨(b - a - 1) / 2 + 1, _, d, _, rfl, by first | omega | (simp only [hdiv]; omega), rfl, by omega, HA1, World.grownBy.refl _ _, rfl⟩
  case round =>
    obtain ⟨k, z, dk, WQ, rfl, hz, rfl, hk, HAQ, HGQ, HO⟩ := hrel
    cases k with
    | succ k =>
      have HST : Hid (heapBuild lt (b - a) a k (siftDown lt (b - a) a k dk) = heapBuild lt (b - a) a ((b - a - 1) / 2 + 1) d) := HO.out
      have e0 := box_grown HGQ.out HC0.out HNE.out
      have e1 := box_grown HGQ.out HC1.out HNE.out
      have hc := siftF_calls HS.out k (b - a) a dk WQ HAQ.out (by omega) (by omega)
      rw [show (((b - a : Nat) : Int)) = (b : Int) - (a : Int) by omega] at hc
      have HC := Lib.hid hc
      obtain rfl : z = (k : Int) := by omega
      clear hc hz
      go_wp2_with (fail)
      refine HC.out.mono ?_
      rintro e w2 ⟨rfl, hA2, hG2⟩
      have HA2 := Lib.hid hA2
      have HG2 := Lib.hid (grown_grown HGQ.out hG2)
      clear hA2 hG2 e0 e1
      go_wp2
      go_roundw
      case rel => exact ⟨k, _, _, _, rfl, rfl, rfl, by omega, HA2, HG2, HST⟩
      case measure => simp [intOf]
    | zero =>
      obtain rfl : z = -1 := by omega
      clear hz
      have HD : Hid (dk = heapBuild lt (b - a) a ((b - a - 1) / 2 + 1) d) := HO.out
      go_wp2
      go_loopw [10] (fun vi wr => ∃ (k : Nat) (z : Int) (dj : Array α) (wo : World), vi = .int .i64 z ∧ z = (k : Int) - 1 ∧ wo = wr ∧ k ≤ b - a ∧ Hid (RowAt enc w0 blk off size dj wo) ∧ Hid (W1.grownBy wo (some blk)) ∧ Hid (heapPop lt a k dj = heapSort lt d a b)) (fun vi _ => (intOf vi + 1).toNat)
      case atStart => exact ⟨b - a, _, dk, _, rfl, by omega, rfl, by omega, HAQ, HGQ, by unfold Hid heapSort; rw [HD.out]⟩
      case round =>
        obtain ⟨k, z, dj, WR, rfl, hz, rfl, hk2, HAR, HGR, HP⟩ := hrel
        cases k with
        | succ k =>
          have HST : Hid (heapPop lt a k (siftDown lt k a 0 (swp dj a (a + k))) = heapSort lt d a b) := HP.out
          obtain rfl : z = (k : Int) := by omega
          clear hz
          have e1w3 := box_grown HGR.out HC1.out HNE.out
          have hs := HS.out.swap WR dj HAR.out.holds HAR.out.size (a) (a + k) (by omega) (by omega)
          rw [show (((a + k : Nat) : Int)) = (a : Int) + (k : Int) by omega] at hs
          obtain ⟨w3, ew3⟩ : ∃ wqq, (WR.setCell ⟨blk, off + (a), none⟩ (enc dj[a + k]!)).setCell ⟨blk, off + (a + k), none⟩ (enc dj[a]!) = wqq := ⟨_, rfl⟩
          have HAw3 : Hid (RowAt enc w0 blk off size (swp dj (a) (a + k)) w3) := by rw [← ew3]; exact HAR.out.swapped (a) (a + k) (by omega) (by omega)
          have HGw3 : Hid (W1.grownBy w3 (some blk)) := by rw [← ew3]; exact grown_grown (grown_grown HGR.out (grown_setCellS _ _ _)) (grown_setCellS _ _ _)
          rw [ew3] at hs
          have HSWw3 := Lib.hid hs
          clear hs ew3
          go_wp2
          rw [HSWw3.out, Oper.upon_value]
          clear e1w3 HSWw3
          have e0 := box_grown HGw3.out HC0.out HNE.out
          have e1 := box_grown HGw3.out HC1.out HNE.out
          have HC := Lib.hid (siftF_calls HS.out 0 k a _ w3 HAw3.out (by omega) (by omega))
          go_wp2_with (fail)
          refine HC.out.mono ?_
          rintro e w4 ⟨rfl, hA2, hG2⟩
          have HA2 := Lib.hid hA2
          have HG2 := Lib.hid (grown_grown HGw3.out hG2)
          clear hA2 hG2 e0 e1
          go_wp2
          go_roundw
          case rel => exact ⟨k, _, _, _, rfl, rfl, rfl, by omega, HA2, HG2, HST⟩
          case measure => simp [intOf]
        | zero =>
          obtain rfl : z = -1 := by omega
          clear hz
          have HD2 : Hid (heapSort lt d a b = dj) := HP.out.symm
          go_wp2
          go_end0
          exact ⟨rfl, by rw [HD2.out]; exact HAR.out, grown_grown HG1.out HGR.out⟩
end
end Go.Proofs.YtcgihpfanfbonaaGreatDoor
