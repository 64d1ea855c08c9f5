/-
  sort.partitionEqual_func under a less that lays blocks.
-/
import Derived.Test.YtcgihpfanfbonaaGreatDoorLN11
namespace Go.Proofs.YtcgihpfanfbonaaGreatDoor
open Go.RowKit Go.Sort
set_option linter.unusedVariables false
set_option linter.unusedSimpArgs false
section
variable {α : Type} [Inhabited α] {enc : α → Value} {lt : α → α → Bool} {g sf blk off size : Nat} {lb sb : Array Value} {w0 : World}

theorem upGo {p : α → Bool} {d : Array α} {j i : Nat} (h : i ≤ j) (hp : p d[i]! = true) : scanUp p d j i = scanUp p d j (i + 1) := by
  rw [scanUp, if_pos (by rw [hp, decide_eq_true h]; rfl)]
theorem upStop {p : α → Bool} {d : Array α} {j i : Nat} (h : ¬ i ≤ j ∨ p d[i]! = false) : scanUp p d j i = i := by
  rw [scanUp, if_neg (by rcases h with h | h <;> simp [h])]
theorem downGo {p : α → Bool} {d : Array α} {i j : Nat} (h : i ≤ j) (h1 : 1 ≤ i) (hp : p d[j]! = true) : scanDown p d i j = scanDown p d i (j - 1) := by
  obtain ⟨k, rfl⟩ : ∃ k, j = k + 1 := ⟨j - 1, by omega⟩
  rw [scanDown, if_pos (by rw [hp, decide_eq_true h]; rfl)]
  rfl
theorem downStop {p : α → Bool} {d : Array α} {i j : Nat} (h : ¬ i ≤ j ∨ p d[j]! = false) : scanDown p d i j = j := by
  cases j with
  | zero => rfl
  | succ k => rw [scanDown, if_neg (by rcases h with h | h <;> simp [h])]
theorem eqStep {a i j i2 j2 : Nat} {d : Array α} (hi : scanUp (fun x => !lt d[a]! x) d j i = i2) (hj : scanDown (fun x => lt d[a]! x) d i2 j = j2) (h : ¬ i2 > j2) (h1 : i ≤ i2) (h2 : j2 ≤ j) (h3 : 1 ≤ i) :
    partEqLoop lt a i j d = partEqLoop lt a (i2 + 1) (j2 - 1) (swp d i2 j2) := by
  rw [partEqLoop]
  simp only [hi, hj]
  rw [if_neg h, dif_pos (by omega)]
theorem eqEnd {a i j i2 j2 : Nat} {d : Array α} (hi : scanUp (fun x => !lt d[a]! x) d j i = i2) (hj : scanDown (fun x => lt d[a]! x) d i2 j = j2) (h : i2 > j2) :
    partEqLoop lt a i j d = (i2, d) := by
  rw [partEqLoop]
  simp only [hi, hj]
  rw [if_pos h]

set_option maxHeartbeats 8000000 in
set_option maxRecDepth 100000 in
theorem partEqF_calls (S : Sorter enc lt g lb sf sb w0 blk off size) (a b pivot : Nat) (d : Array α) (W : World) (hA : RowAt enc w0 blk off size d W) (hab : a < b) (hb : b ≤ size) (hp1 : a ≤ pivot) (hp2 : pivot < b) :
    Calls Tryz.prog 122 #[.agg #[.func (.func g) #[] lb, .func (.func sf) #[] sb], .int .i64 a, .int .i64 b, .int .i64 pivot] W fun e w' =>
      e = .returned (.int .i64 (partitionEqual lt d a b pivot).1) ∧ RowAt enc w0 blk off size (partitionEqual lt d a b pivot).2 w' ∧ W.grownBy w' (some blk) := by
  obtain ⟨W1, eW⟩ : ∃ W1, W.alloc (.cells #[.func (.func g) #[] lb, .func (.func sf) #[] sb] 130) = W1 := ⟨_, rfl⟩
  obtain ⟨z1, hW, m1⟩ := boxes1 eW
  have c0 := m1 0
  have c1 := m1 1
  simp only [List.getElem?_toArray, List.getElem?_cons_zero, List.getElem?_cons_succ] at c0 c1
  have hbk : blk < W.heap.size := hA.there S.low
  have HA1 : Hid (RowAt enc w0 blk off size d W1) := hA.below S.low hW
  have HG1 : Hid (W.grownBy W1 (some blk)) := grown_below (World.grownBy.refl _ _) hW
  have HNE : Hid (W.heap.size ≠ blk) := by unfold Hid; omega
  have HS := Lib.hid S
  have hsm := S.small
  have eg := S.eg
  have HC0 := Lib.hid c0
  have HC1 := Lib.hid c1
  clear m1 z1 hW c0 c1 S hA
  go_enter Tryz.func122, Tryz.ntmps122
  have HG0 : Hid (W1.grownBy W1 (some blk)) := World.grownBy.refl _ _
  have e1w1 := box_grown HG0.out HC1.out HNE.out
  have hs := HS.out.swap W1 d HA1.out.holds HA1.out.size (a) (pivot) (by omega) (by omega)
  obtain ⟨w1, ew1⟩ : ∃ wqq, (W1.setCell ⟨blk, off + (a), none⟩ (enc d[pivot]!)).setCell ⟨blk, off + (pivot), none⟩ (enc d[a]!) = wqq := ⟨_, rfl⟩
  have HAw1 : Hid (RowAt enc w0 blk off size (swp d (a) (pivot)) w1) := by rw [← ew1]; exact HA1.out.swapped (a) (pivot) (by omega) (by omega)
  have HGw1 : Hid (W1.grownBy w1 (some blk)) := by rw [← ew1]; exact grown_grown (grown_grown HG0.out (grown_setCellS _ _ _)) (grown_setCellS _ _ _)
  rw [ew1] at hs
  have HSWw1 := Lib.hid hs
  clear hs ew1
  go_wp2
  rw [HSWw1.out, Oper.upon_value]
  clear e1w1 HSWw1
  go_wp2
  go_loopw [9, 10] (fun vi vj wr => ∃ (i j : Nat) (dk : Array α) (wo : World), vi = .int .i64 i ∧ vj = .int .i64 j ∧ wo = wr ∧ a + 1 ≤ i ∧ i ≤ j + 2 ∧ j < size ∧ Hid (RowAt enc w0 blk off size dk wo) ∧ Hid (W1.grownBy wo (some blk)) ∧ Hid (partEqLoop lt a i j dk = partitionEqual lt d a b pivot)) (fun vi vj _ => (intOf vj).toNat + 2 - (intOf vi).toNat)
  case atStart => exact ⟨a + 1, b - 1, _, _, by go_num, by congr 1; omega, rfl, by omega, by omega, by omega, HAw1, HGw1, rfl⟩
  case round =>
    obtain ⟨i, j, dk, wo, rfl, rfl, rfl, hai, hij, hj, HAwo, HGwo, HO⟩ := hrel
    go_wp2
    go_loopw [9] (fun vi wr => ∃ (i2 : Nat) (wu : World), vi = .int .i64 i2 ∧ wu = wr ∧ i ≤ i2 ∧ i2 ≤ j + 2 ∧ Hid (RowAt enc w0 blk off size dk wu) ∧ Hid (W1.grownBy wu (some blk)) ∧ Hid (scanUp (fun x => !lt dk[a]! x) dk j i2 = scanUp (fun x => !lt dk[a]! x) dk j i)) (fun vi _ => j + 2 - (intOf vi).toNat)
    case atStart => exact ⟨i, _, rfl, rfl, Nat.le_refl _, hij, HAwo, HGwo, rfl⟩
    case round =>
      obtain ⟨i2, wu, rfl, rfl, hi2, hij3, HAwu, HGwu, HUU⟩ := hrel
      by_cases h4 : i2 ≤ j
      · have h4i : (i2 : Int) ≤ (j : Int) := by omega
        cases h5 : lt dk[a]! dk[i2]! with
        | false =>
          have HUN : Hid (scanUp (fun x => !lt dk[a]! x) dk j (i2 + 1) = scanUp (fun x => !lt dk[a]! x) dk j i) := by unfold Hid; rw [← HUU.out]; exact (upGo h4 (by rw [h5]; rfl)).symm
          have hl := HS.out.less _ _ HAwu.out (a) (i2) (by omega) (by omega)
          rw [h5] at hl
          have HLwv := Lib.hid hl
          clear hl
          have e0wv := box_grown HGwu.out HC0.out HNE.out
          go_wp2_with (fail)
          refine HLwv.out.mono ?_
          rintro e wv ⟨rfl, hbwv⟩
          have HAwv : Hid (RowAt enc w0 blk off size dk wv) := HAwu.out.below HS.out.low hbwv
          have HGwv : Hid (W1.grownBy wv (some blk)) := grown_below HGwu.out hbwv
          clear hbwv e0wv HLwv

          clear h5
          go_wp2
          go_roundw
          case rel => exact ⟨i2 + 1, _, by go_num, rfl, by omega, by omega, HAwv, HGwv, HUN⟩
          case measure => simp [intOf]; omega
        | true =>
          have HU : Hid (scanUp (fun x => !lt dk[a]! x) dk j i = i2) := by unfold Hid; rw [← HUU.out]; exact upStop (.inr (by rw [h5]; rfl))
          have hl := HS.out.less _ _ HAwu.out (a) (i2) (by omega) (by omega)
          rw [h5] at hl
          have HLwv := Lib.hid hl
          clear hl
          have e0wv := box_grown HGwu.out HC0.out HNE.out
          go_wp2_with (fail)
          refine HLwv.out.mono ?_
          rintro e wv ⟨rfl, hbwv⟩
          have HAwv : Hid (RowAt enc w0 blk off size dk wv) := HAwu.out.below HS.out.low hbwv
          have HGwv : Hid (W1.grownBy wv (some blk)) := grown_below HGwu.out hbwv
          clear hbwv e0wv HLwv

          clear h5

          go_wp2
          go_loopw [10] (fun vj wr => ∃ (j2 : Nat) (wo : World), vj = .int .i64 j2 ∧ wo = wr ∧ j2 ≤ j ∧ i2 ≤ j2 + 2 ∧ Hid (RowAt enc w0 blk off size dk wo) ∧ Hid (W1.grownBy wo (some blk)) ∧ Hid (scanDown (fun x => lt dk[a]! x) dk i2 j2 = scanDown (fun x => lt dk[a]! x) dk i2 j)) (fun vj _ => (intOf vj).toNat)
          case atStart => exact ⟨j, _, rfl, rfl, Nat.le_refl _, by omega, HAwv, HGwv, rfl⟩
          case round =>
            obtain ⟨j2, wy, rfl, rfl, hj2, hij2, HAwy, HGwy, HDD⟩ := hrel
            by_cases h6 : i2 ≤ j2
            · have h6i : (i2 : Int) ≤ (j2 : Int) := by omega
              cases h7 : lt dk[a]! dk[j2]! with
              | true =>
                have HDN : Hid (scanDown (fun x => lt dk[a]! x) dk i2 (j2 - 1) = scanDown (fun x => lt dk[a]! x) dk i2 j) := by unfold Hid; rw [← HDD.out]; exact (downGo h6 (by omega) h7).symm
                have hl := HS.out.less _ _ HAwy.out (a) (j2) (by omega) (by omega)
                rw [h7] at hl
                have HLwz := Lib.hid hl
                clear hl
                have e0wz := box_grown HGwy.out HC0.out HNE.out
                go_wp2_with (fail)
                refine HLwz.out.mono ?_
                rintro e wz ⟨rfl, hbwz⟩
                have HAwz : Hid (RowAt enc w0 blk off size dk wz) := HAwy.out.below HS.out.low hbwz
                have HGwz : Hid (W1.grownBy wz (some blk)) := grown_below HGwy.out hbwz
                clear hbwz e0wz HLwz

                clear h7
                go_wp2
                go_roundw
                case rel => exact ⟨j2 - 1, _, by congr 1; omega, rfl, by omega, by omega, HAwz, HGwz, HDN⟩
                case measure => simp [intOf]; omega
              | false =>
                have HD : Hid (scanDown (fun x => lt dk[a]! x) dk i2 j = j2) := by unfold Hid; rw [← HDD.out]; exact downStop (.inr h7)
                have hl := HS.out.less _ _ HAwy.out (a) (j2) (by omega) (by omega)
                rw [h7] at hl
                have HLwz := Lib.hid hl
                clear hl
                have e0wz := box_grown HGwy.out HC0.out HNE.out
                go_wp2_with (fail)
                refine HLwz.out.mono ?_
                rintro e wz ⟨rfl, hbwz⟩
                have HAwz : Hid (RowAt enc w0 blk off size dk wz) := HAwy.out.below HS.out.low hbwz
                have HGwz : Hid (W1.grownBy wz (some blk)) := grown_below HGwy.out hbwz
                clear hbwz e0wz HLwz

                clear h7

                by_cases h8 : i2 > j2
                · have h8i : (j2 : Int) < (i2 : Int) := by omega
                  have HE : Hid (partitionEqual lt d a b pivot = (i2, dk)) := by unfold Hid; rw [← HO.out, eqEnd HU.out HD.out h8]
                  go_wp2
                  refine bodyPost_ret (v := .int .i64 i2) ?_ rfl ⟨by rw [HE.out], by rw [HE.out]; exact HAwz.out, grown_grown HG1.out HGwz.out⟩
                  simp [results, Tryz.results122, go_sem]
                · have h8i : ¬ (j2 : Int) < (i2 : Int) := by omega
                  have HE : Hid (partEqLoop lt a (i2 + 1) (j2 - 1) (swp dk i2 j2) = partitionEqual lt d a b pivot) := by unfold Hid; rw [← HO.out, eqStep HU.out HD.out h8 (by omega) (by omega) (by omega)]
                  have e1w9 := box_grown HGwz.out HC1.out HNE.out
                  have hs := HS.out.swap wz dk HAwz.out.holds HAwz.out.size (i2) (j2) (by omega) (by omega)
                  obtain ⟨w9, ew9⟩ : ∃ wqq, (wz.setCell ⟨blk, off + (i2), none⟩ (enc dk[j2]!)).setCell ⟨blk, off + (j2), none⟩ (enc dk[i2]!) = wqq := ⟨_, rfl⟩
                  have HAw9 : Hid (RowAt enc w0 blk off size (swp dk (i2) (j2)) w9) := by rw [← ew9]; exact HAwz.out.swapped (i2) (j2) (by omega) (by omega)
                  have HGw9 : Hid (W1.grownBy w9 (some blk)) := by rw [← ew9]; exact grown_grown (grown_grown HGwz.out (grown_setCellS _ _ _)) (grown_setCellS _ _ _)
                  rw [ew9] at hs
                  have HSWw9 := Lib.hid hs
                  clear hs ew9
                  go_wp2
                  rw [HSWw9.out, Oper.upon_value]
                  clear e1w9 HSWw9

                  go_wp2
                  go_roundw
                  case rel => exact ⟨i2 + 1, j2 - 1, _, _, by go_num, by congr 1; omega, rfl, by omega, by omega, by omega, HAw9, HGw9, HE⟩
                  case measure => simp [intOf]; omega
            · have h6i : ¬ (i2 : Int) ≤ (j2 : Int) := by omega
              have HD : Hid (scanDown (fun x => lt dk[a]! x) dk i2 j = j2) := by unfold Hid; rw [← HDD.out]; exact downStop (.inl h6)
              by_cases h8 : i2 > j2
              · have h8i : (j2 : Int) < (i2 : Int) := by omega
                have HE : Hid (partitionEqual lt d a b pivot = (i2, dk)) := by unfold Hid; rw [← HO.out, eqEnd HU.out HD.out h8]
                go_wp2
                refine bodyPost_ret (v := .int .i64 i2) ?_ rfl ⟨by rw [HE.out], by rw [HE.out]; exact HAwy.out, grown_grown HG1.out HGwy.out⟩
                simp [results, Tryz.results122, go_sem]
              · exact absurd (by omega : i2 > j2) h8
      · have h4i : ¬ (i2 : Int) ≤ (j : Int) := by omega
        have HU : Hid (scanUp (fun x => !lt dk[a]! x) dk j i = i2) := by unfold Hid; rw [← HUU.out]; exact upStop (.inl h4)
        go_wp2
        go_loopw [10] (fun vj wr => ∃ (j2 : Nat) (wo : World), vj = .int .i64 j2 ∧ wo = wr ∧ j2 ≤ j ∧ i2 ≤ j2 + 2 ∧ Hid (RowAt enc w0 blk off size dk wo) ∧ Hid (W1.grownBy wo (some blk)) ∧ Hid (scanDown (fun x => lt dk[a]! x) dk i2 j2 = scanDown (fun x => lt dk[a]! x) dk i2 j)) (fun vj _ => (intOf vj).toNat)
        case atStart => exact ⟨j, _, rfl, rfl, Nat.le_refl _, by omega, HAwu, HGwu, rfl⟩
        case round =>
          obtain ⟨j2, wy, rfl, rfl, hj2, hij2, HAwy, HGwy, HDD⟩ := hrel
          by_cases h6 : i2 ≤ j2
          · exact absurd h6 (by omega)
          · have h6i : ¬ (i2 : Int) ≤ (j2 : Int) := by omega
            have HD : Hid (scanDown (fun x => lt dk[a]! x) dk i2 j = j2) := by unfold Hid; rw [← HDD.out]; exact downStop (.inl h6)
            by_cases h8 : i2 > j2
            · have h8i : (j2 : Int) < (i2 : Int) := by omega
              have HE : Hid (partitionEqual lt d a b pivot = (i2, dk)) := by unfold Hid; rw [← HO.out, eqEnd HU.out HD.out h8]
              go_wp2
              refine bodyPost_ret (v := .int .i64 i2) ?_ rfl ⟨by rw [HE.out], by rw [HE.out]; exact HAwy.out, grown_grown HG1.out HGwy.out⟩
              simp [results, Tryz.results122, go_sem]
            · exact absurd (by omega : i2 > j2) h8
end
end Go.Proofs.YtcgihpfanfbonaaGreatDoor
