/-
  sort.partition_func under a less that lays blocks.
-/
import Derived.Test.YtcgihpfanfbonaaGreatDoorLN15
namespace Go.Proofs.YtcgihpfanfbonaaGreatDoor
open Go.RowKit Go.Sort
set_option linter.unusedVariables false
set_option linter.unusedSimpArgs false
section
variable {α : Type} [Inhabited α] {enc : α → Value} {lt : α → α → Bool} {g sf blk off size : Nat} {lb sb : Array Value} {w0 : World}

theorem partStep {a i j i2 j2 : Nat} {d : Array α} (hi : scanUp (fun x => lt x d[a]!) d j i = i2) (hj : scanDown (fun x => !lt x d[a]!) d i2 j = j2) (h : ¬ i2 > j2) (h1 : i ≤ i2) (h2 : j2 ≤ j) (h3 : 1 ≤ i) :
    partLoop lt a i j d = partLoop lt a (i2 + 1) (j2 - 1) (swp d i2 j2) := by
  rw [partLoop]
  simp only [hi, hj]
  rw [if_neg h, dif_pos (by omega)]
theorem partEnd {a i j i2 j2 : Nat} {d : Array α} (hi : scanUp (fun x => lt x d[a]!) d j i = i2) (hj : scanDown (fun x => !lt x d[a]!) d i2 j = j2) (h : i2 > j2) :
    partLoop lt a i j d = (j2, d) := by
  rw [partLoop]
  simp only [hi, hj]
  rw [if_pos h]

set_option maxHeartbeats 16000000 in
set_option maxRecDepth 100000 in
theorem partF_calls (S : Sorter enc lt g lb sf sb w0 blk off size) (a b pivot : Nat) (d : Array α) (W : World) (hA : RowAt enc w0 blk off size d W) (hab : a < b) (hb : b ≤ size) (hp1 : a ≤ pivot) (hp2 : pivot < b) :
    Calls Tryz.prog 123 #[.agg #[.func (.func g) #[] lb, .func (.func sf) #[] sb], .int .i64 a, .int .i64 b, .int .i64 pivot] W fun e w' =>
      e = .returned (.tuple #[.int .i64 (partition lt d a b pivot).1, .bool (partition lt d a b pivot).2.1]) ∧ RowAt enc w0 blk off size (partition lt d a b pivot).2.2 w' ∧ W.grownBy w' (some blk) := by
  obtain ⟨j, hbj, hjb⟩ : ∃ j : Nat, (b : Int) - 1 = (j : Int) ∧ b - 1 = j := ⟨b - 1, by omega, rfl⟩
  obtain ⟨i, hai, hia⟩ : ∃ i : Nat, (a : Int) + 1 = (i : Int) ∧ a + 1 = i := ⟨a + 1, by omega, rfl⟩
  have HJB := Lib.hid hjb
  have HIA := Lib.hid hia
  obtain ⟨W1, eW⟩ : ∃ W1, W.alloc (.cells #[.func (.func g) #[] lb, .func (.func sf) #[] sb] 130) = W1 := ⟨_, rfl⟩
  obtain ⟨z1, hW, m1⟩ := boxes1 eW
  have c0 := m1 0
  have c1 := m1 1
  simp only [List.getElem?_toArray, List.getElem?_cons_zero, List.getElem?_cons_succ] at c0 c1
  have hbk : blk < W.heap.size := hA.there S.low
  have HA1 : Hid (RowAt enc w0 blk off size d W1) := hA.below S.low hW
  have HG1 : Hid (W.grownBy W1 (some blk)) := grown_below (World.grownBy.refl _ _) hW
  have HNE : Hid (W.heap.size ≠ blk) := by unfold Hid; omega
  have HS := Lib.hid S
  have hsm := S.small
  have eg := S.eg
  have HC0 := Lib.hid c0
  have HC1 := Lib.hid c1
  clear m1 z1 hW c0 c1 S hA
  go_enter Tryz.func123, Tryz.ntmps123
  have HGW1 : Hid (W1.grownBy W1 (some blk)) := World.grownBy.refl _ _
  have HAW1 := HA1
  have e1w1 := box_grown HGW1.out HC1.out HNE.out
  have hs := HS.out.swap W1 d HAW1.out.holds HAW1.out.size (a) (pivot) (by omega) (by omega)
  obtain ⟨w1, ew1⟩ : ∃ wqq, (W1.setCell ⟨blk, off + (a), none⟩ (enc d[pivot]!)).setCell ⟨blk, off + (pivot), none⟩ (enc d[a]!) = wqq := ⟨_, rfl⟩
  have HAw1 : Hid (RowAt enc w0 blk off size (swp d (a) (pivot)) w1) := by rw [← ew1]; exact HAW1.out.swapped (a) (pivot) (by omega) (by omega)
  have HGw1 : Hid (W1.grownBy w1 (some blk)) := by rw [← ew1]; exact grown_grown (grown_grown HGW1.out (grown_setCellS _ _ _)) (grown_setCellS _ _ _)
  rw [ew1] at hs
  have HSWw1 := Lib.hid hs
  clear hs ew1
  go_wp2
  rw [HSWw1.out, Oper.upon_value]
  clear e1w1 HSWw1
  obtain ⟨d0, ed0⟩ : ∃ d0, swp d a pivot = d0 := ⟨_, rfl⟩
  have ED := Lib.hid ed0
  rw [ed0] at HAw1
  clear ed0
  go_wp2
  go_loopw [10] (fun vi wr => ∃ (i2 : Nat) (wo : World), vi = .int .i64 i2 ∧ wo = wr ∧ i ≤ i2 ∧ i2 ≤ j + 2 ∧ Hid (RowAt enc w0 blk off size d0 wo) ∧ Hid (W1.grownBy wo (some blk)) ∧ Hid (scanUp (fun x => lt x d0[a]!) d0 j i2 = scanUp (fun x => lt x d0[a]!) d0 j i)) (fun vi _ => j + 2 - (intOf vi).toNat)
  case atStart => exact ⟨i, _, rfl, rfl, Nat.le_refl _, by omega, HAw1, HGw1, rfl⟩
  case round =>
    obtain ⟨i2, wu2, rfl, rfl, hi2, hiz2, HAwu2, HGwu2, HUU2⟩ := hrel
    by_cases h4 : i2 ≤ j
    · have h4i : (i2 : Int) ≤ (j : Int) := by omega
      cases h5 : lt d0[i2]! d0[a]! with
      | true =>
        have HUN : Hid (scanUp (fun x => lt x d0[a]!) d0 j (i2 + 1) = scanUp (fun x => lt x d0[a]!) d0 j i) := by unfold Hid; rw [← HUU2.out]; exact (upGo h4 h5).symm
        have hl := HS.out.less _ _ HAwu2.out (i2) (a) (by omega) (by omega)
        rw [h5] at hl
        have HLwv2 := Lib.hid hl
        clear hl
        have e0wv2 := box_grown HGwu2.out HC0.out HNE.out
        go_wp2_with (fail)
        refine HLwv2.out.mono ?_
        rintro e wv2 ⟨rfl, hbwv2⟩
        have HAwv2 : Hid (RowAt enc w0 blk off size d0 wv2) := HAwu2.out.below HS.out.low hbwv2
        have HGwv2 : Hid (W1.grownBy wv2 (some blk)) := grown_below HGwu2.out hbwv2
        clear hbwv2 e0wv2 HLwv2

        clear h5
        go_wp2
        go_roundw
        case rel => exact ⟨i2 + 1, _, by go_num, rfl, by omega, by omega, HAwv2, HGwv2, HUN⟩
        case measure => simp [intOf]; omega
      | false =>
        have HU2 : Hid (scanUp (fun x => lt x d0[a]!) d0 j i = i2) := by unfold Hid; rw [← HUU2.out]; exact upStop (.inr h5)
        have hl := HS.out.less _ _ HAwu2.out (i2) (a) (by omega) (by omega)
        rw [h5] at hl
        have HLwv2 := Lib.hid hl
        clear hl
        have e0wv2 := box_grown HGwu2.out HC0.out HNE.out
        go_wp2_with (fail)
        refine HLwv2.out.mono ?_
        rintro e wv2 ⟨rfl, hbwv2⟩
        have HAwv2 : Hid (RowAt enc w0 blk off size d0 wv2) := HAwu2.out.below HS.out.low hbwv2
        have HGwv2 : Hid (W1.grownBy wv2 (some blk)) := grown_below HGwu2.out hbwv2
        clear hbwv2 e0wv2 HLwv2

        clear h5

        go_wp2
        go_loopw [11] (fun vj wr => ∃ (j2 : Nat) (wo : World), vj = .int .i64 j2 ∧ wo = wr ∧ j2 ≤ j ∧ i2 ≤ j2 + 2 ∧ Hid (RowAt enc w0 blk off size d0 wo) ∧ Hid (W1.grownBy wo (some blk)) ∧ Hid (scanDown (fun x => !lt x d0[a]!) d0 i2 j2 = scanDown (fun x => !lt x d0[a]!) d0 i2 j)) (fun vj _ => (intOf vj).toNat)
        case atStart => exact ⟨j, _, rfl, rfl, Nat.le_refl _, by omega, HAwv2, HGwv2, rfl⟩
        case round =>
          obtain ⟨j2, wy2, rfl, rfl, hj2, hij2, HAwy2, HGwy2, HDD2⟩ := hrel
          by_cases h6 : i2 ≤ j2
          · have h6i : (i2 : Int) ≤ (j2 : Int) := by omega
            cases h7 : lt d0[j2]! d0[a]! with
            | false =>
              have HDN : Hid (scanDown (fun x => !lt x d0[a]!) d0 i2 (j2 - 1) = scanDown (fun x => !lt x d0[a]!) d0 i2 j) := by unfold Hid; rw [← HDD2.out]; exact (downGo h6 (by omega) (by rw [h7]; rfl)).symm
              have hl := HS.out.less _ _ HAwy2.out (j2) (a) (by omega) (by omega)
              rw [h7] at hl
              have HLwz2 := Lib.hid hl
              clear hl
              have e0wz2 := box_grown HGwy2.out HC0.out HNE.out
              go_wp2_with (fail)
              refine HLwz2.out.mono ?_
              rintro e wz2 ⟨rfl, hbwz2⟩
              have HAwz2 : Hid (RowAt enc w0 blk off size d0 wz2) := HAwy2.out.below HS.out.low hbwz2
              have HGwz2 : Hid (W1.grownBy wz2 (some blk)) := grown_below HGwy2.out hbwz2
              clear hbwz2 e0wz2 HLwz2

              clear h7
              go_wp2
              go_roundw
              case rel => exact ⟨j2 - 1, _, by congr 1; omega, rfl, by omega, by omega, HAwz2, HGwz2, HDN⟩
              case measure => simp [intOf]; omega
            | true =>
              have HD2 : Hid (scanDown (fun x => !lt x d0[a]!) d0 i2 j = j2) := by unfold Hid; rw [← HDD2.out]; exact downStop (.inr (by rw [h7]; rfl))
              have hl := HS.out.less _ _ HAwy2.out (j2) (a) (by omega) (by omega)
              rw [h7] at hl
              have HLwz2 := Lib.hid hl
              clear hl
              have e0wz2 := box_grown HGwy2.out HC0.out HNE.out
              go_wp2_with (fail)
              refine HLwz2.out.mono ?_
              rintro e wz2 ⟨rfl, hbwz2⟩
              have HAwz2 : Hid (RowAt enc w0 blk off size d0 wz2) := HAwy2.out.below HS.out.low hbwz2
              have HGwz2 : Hid (W1.grownBy wz2 (some blk)) := grown_below HGwy2.out hbwz2
              clear hbwz2 e0wz2 HLwz2

              clear h7

              by_cases h8 : i2 > j2
              · exact absurd h8 (by omega)
              · have h8i : ¬ (j2 : Int) < (i2 : Int) := by omega
                have HO2 : Hid (partition lt d a b pivot = ((partLoop lt a (i2 + 1) (j2 - 1) (swp d0 i2 j2)).1, false, swp (partLoop lt a (i2 + 1) (j2 - 1) (swp d0 i2 j2)).2 (partLoop lt a (i2 + 1) (j2 - 1) (swp d0 i2 j2)).1 a)) := by unfold Hid partition; simp only [ED.out, HJB.out, HIA.out, HU2.out, HD2.out, if_neg h8]
                have e1w8 := box_grown HGwz2.out HC1.out HNE.out
                have hs := HS.out.swap wz2 d0 HAwz2.out.holds HAwz2.out.size (i2) (j2) (by omega) (by omega)
                obtain ⟨w8, ew8⟩ : ∃ wqq, (wz2.setCell ⟨blk, off + (i2), none⟩ (enc d0[j2]!)).setCell ⟨blk, off + (j2), none⟩ (enc d0[i2]!) = wqq := ⟨_, rfl⟩
                have HAw8 : Hid (RowAt enc w0 blk off size (swp d0 (i2) (j2)) w8) := by rw [← ew8]; exact HAwz2.out.swapped (i2) (j2) (by omega) (by omega)
                have HGw8 : Hid (W1.grownBy w8 (some blk)) := by rw [← ew8]; exact grown_grown (grown_grown HGwz2.out (grown_setCellS _ _ _)) (grown_setCellS _ _ _)
                rw [ew8] at hs
                have HSWw8 := Lib.hid hs
                clear hs ew8
                go_wp2
                rw [HSWw8.out, Oper.upon_value]
                clear e1w8 HSWw8

                go_wp2
                go_loopw [10, 11] (fun vi vj wr => ∃ (p q : Nat) (dk : Array α) (wo : World), vi = .int .i64 p ∧ vj = .int .i64 q ∧ wo = wr ∧ a + 1 ≤ p ∧ p ≤ q + 2 ∧ q < size ∧ Hid (RowAt enc w0 blk off size dk wo) ∧ Hid (W1.grownBy wo (some blk)) ∧ Hid (partLoop lt a p q dk = partLoop lt a (i2 + 1) (j2 - 1) (swp d0 i2 j2))) (fun vi vj _ => (intOf vj).toNat + 2 - (intOf vi).toNat)
                case atStart => exact ⟨i2 + 1, j2 - 1, _, _, by go_num, by congr 1; omega, rfl, by omega, by omega, by omega, HAw8, HGw8, rfl⟩
                case round =>
                  obtain ⟨p, q, dk, wo, rfl, rfl, rfl, hap, hpq, hq, HAwo, HGwo, HO⟩ := hrel
                  go_wp2
                  go_loopw [10] (fun vi wr => ∃ (i3 : Nat) (wo : World), vi = .int .i64 i3 ∧ wo = wr ∧ p ≤ i3 ∧ i3 ≤ q + 2 ∧ Hid (RowAt enc w0 blk off size dk wo) ∧ Hid (W1.grownBy wo (some blk)) ∧ Hid (scanUp (fun x => lt x dk[a]!) dk q i3 = scanUp (fun x => lt x dk[a]!) dk q p)) (fun vi _ => q + 2 - (intOf vi).toNat)
                  case atStart => exact ⟨p, _, rfl, rfl, Nat.le_refl _, by omega, HAwo, HGwo, rfl⟩
                  case round =>
                    obtain ⟨i3, wu3, rfl, rfl, hi3, hiz3, HAwu3, HGwu3, HUU3⟩ := hrel
                    by_cases h4 : i3 ≤ q
                    · have h4i : (i3 : Int) ≤ (q : Int) := by omega
                      cases h5 : lt dk[i3]! dk[a]! with
                      | true =>
                        have HUN : Hid (scanUp (fun x => lt x dk[a]!) dk q (i3 + 1) = scanUp (fun x => lt x dk[a]!) dk q p) := by unfold Hid; rw [← HUU3.out]; exact (upGo h4 h5).symm
                        have hl := HS.out.less _ _ HAwu3.out (i3) (a) (by omega) (by omega)
                        rw [h5] at hl
                        have HLwv3 := Lib.hid hl
                        clear hl
                        have e0wv3 := box_grown HGwu3.out HC0.out HNE.out
                        go_wp2_with (fail)
                        refine HLwv3.out.mono ?_
                        rintro e wv3 ⟨rfl, hbwv3⟩
                        have HAwv3 : Hid (RowAt enc w0 blk off size dk wv3) := HAwu3.out.below HS.out.low hbwv3
                        have HGwv3 : Hid (W1.grownBy wv3 (some blk)) := grown_below HGwu3.out hbwv3
                        clear hbwv3 e0wv3 HLwv3

                        clear h5
                        go_wp2
                        go_roundw
                        case rel => exact ⟨i3 + 1, _, by go_num, rfl, by omega, by omega, HAwv3, HGwv3, HUN⟩
                        case measure => simp [intOf]; omega
                      | false =>
                        have HU3 : Hid (scanUp (fun x => lt x dk[a]!) dk q p = i3) := by unfold Hid; rw [← HUU3.out]; exact upStop (.inr h5)
                        have hl := HS.out.less _ _ HAwu3.out (i3) (a) (by omega) (by omega)
                        rw [h5] at hl
                        have HLwv3 := Lib.hid hl
                        clear hl
                        have e0wv3 := box_grown HGwu3.out HC0.out HNE.out
                        go_wp2_with (fail)
                        refine HLwv3.out.mono ?_
                        rintro e wv3 ⟨rfl, hbwv3⟩
                        have HAwv3 : Hid (RowAt enc w0 blk off size dk wv3) := HAwu3.out.below HS.out.low hbwv3
                        have HGwv3 : Hid (W1.grownBy wv3 (some blk)) := grown_below HGwu3.out hbwv3
                        clear hbwv3 e0wv3 HLwv3

                        clear h5

                        go_wp2
                        go_loopw [11] (fun vj wr => ∃ (j3 : Nat) (wo : World), vj = .int .i64 j3 ∧ wo = wr ∧ j3 ≤ q ∧ i3 ≤ j3 + 2 ∧ Hid (RowAt enc w0 blk off size dk wo) ∧ Hid (W1.grownBy wo (some blk)) ∧ Hid (scanDown (fun x => !lt x dk[a]!) dk i3 j3 = scanDown (fun x => !lt x dk[a]!) dk i3 q)) (fun vj _ => (intOf vj).toNat)
                        case atStart => exact ⟨q, _, rfl, rfl, Nat.le_refl _, by omega, HAwv3, HGwv3, rfl⟩
                        case round =>
                          obtain ⟨j3, wy3, rfl, rfl, hj3, hij3, HAwy3, HGwy3, HDD3⟩ := hrel
                          by_cases h6 : i3 ≤ j3
                          · have h6i : (i3 : Int) ≤ (j3 : Int) := by omega
                            cases h7 : lt dk[j3]! dk[a]! with
                            | false =>
                              have HDN : Hid (scanDown (fun x => !lt x dk[a]!) dk i3 (j3 - 1) = scanDown (fun x => !lt x dk[a]!) dk i3 q) := by unfold Hid; rw [← HDD3.out]; exact (downGo h6 (by omega) (by rw [h7]; rfl)).symm
                              have hl := HS.out.less _ _ HAwy3.out (j3) (a) (by omega) (by omega)
                              rw [h7] at hl
                              have HLwz3 := Lib.hid hl
                              clear hl
                              have e0wz3 := box_grown HGwy3.out HC0.out HNE.out
                              go_wp2_with (fail)
                              refine HLwz3.out.mono ?_
                              rintro e wz3 ⟨rfl, hbwz3⟩
                              have HAwz3 : Hid (RowAt enc w0 blk off size dk wz3) := HAwy3.out.below HS.out.low hbwz3
                              have HGwz3 : Hid (W1.grownBy wz3 (some blk)) := grown_below HGwy3.out hbwz3
                              clear hbwz3 e0wz3 HLwz3

                              clear h7
                              go_wp2
                              go_roundw
                              case rel => exact ⟨j3 - 1, _, by congr 1; omega, rfl, by omega, by omega, HAwz3, HGwz3, HDN⟩
                              case measure => simp [intOf]; omega
                            | true =>
                              have HD3 : Hid (scanDown (fun x => !lt x dk[a]!) dk i3 q = j3) := by unfold Hid; rw [← HDD3.out]; exact downStop (.inr (by rw [h7]; rfl))
                              have hl := HS.out.less _ _ HAwy3.out (j3) (a) (by omega) (by omega)
                              rw [h7] at hl
                              have HLwz3 := Lib.hid hl
                              clear hl
                              have e0wz3 := box_grown HGwy3.out HC0.out HNE.out
                              go_wp2_with (fail)
                              refine HLwz3.out.mono ?_
                              rintro e wz3 ⟨rfl, hbwz3⟩
                              have HAwz3 : Hid (RowAt enc w0 blk off size dk wz3) := HAwy3.out.below HS.out.low hbwz3
                              have HGwz3 : Hid (W1.grownBy wz3 (some blk)) := grown_below HGwy3.out hbwz3
                              clear hbwz3 e0wz3 HLwz3

                              clear h7

                              by_cases h8 : i3 > j3
                              · exact absurd h8 (by omega)
                              · have h8i : ¬ (j3 : Int) < (i3 : Int) := by omega
                                have HE : Hid (partLoop lt a (i3 + 1) (j3 - 1) (swp dk i3 j3) = partLoop lt a (i2 + 1) (j2 - 1) (swp d0 i2 j2)) := by unfold Hid; rw [← HO.out, partStep HU3.out HD3.out h8 (by omega) (by omega) (by omega)]
                                have e1w9 := box_grown HGwz3.out HC1.out HNE.out
                                have hs := HS.out.swap wz3 dk HAwz3.out.holds HAwz3.out.size (i3) (j3) (by omega) (by omega)
                                obtain ⟨w9, ew9⟩ : ∃ wqq, (wz3.setCell ⟨blk, off + (i3), none⟩ (enc dk[j3]!)).setCell ⟨blk, off + (j3), none⟩ (enc dk[i3]!) = wqq := ⟨_, rfl⟩
                                have HAw9 : Hid (RowAt enc w0 blk off size (swp dk (i3) (j3)) w9) := by rw [← ew9]; exact HAwz3.out.swapped (i3) (j3) (by omega) (by omega)
                                have HGw9 : Hid (W1.grownBy w9 (some blk)) := by rw [← ew9]; exact grown_grown (grown_grown HGwz3.out (grown_setCellS _ _ _)) (grown_setCellS _ _ _)
                                rw [ew9] at hs
                                have HSWw9 := Lib.hid hs
                                clear hs ew9
                                go_wp2
                                rw [HSWw9.out, Oper.upon_value]
                                clear e1w9 HSWw9

                                go_wp2
                                go_roundw
                                case rel => exact ⟨i3 + 1, j3 - 1, _, _, by go_num, by congr 1; omega, rfl, by omega, by omega, by omega, HAw9, HGw9, HE⟩
                                case measure => simp [intOf]; omega
                          · have h6i : ¬ (i3 : Int) ≤ (j3 : Int) := by omega
                            have HD3 : Hid (scanDown (fun x => !lt x dk[a]!) dk i3 q = j3) := by unfold Hid; rw [← HDD3.out]; exact downStop (.inl h6)
                            by_cases h8 : i3 > j3
                            · have h8i : (j3 : Int) < (i3 : Int) := by omega
                              have HE : Hid (partition lt d a b pivot = (j3, false, swp dk j3 a)) := by unfold Hid; rw [HO2.out, ← HO.out, partEnd HU3.out HD3.out h8]
                              have e1w9 := box_grown HGwy3.out HC1.out HNE.out
                              have hs := HS.out.swap wy3 dk HAwy3.out.holds HAwy3.out.size (j3) (a) (by omega) (by omega)
                              obtain ⟨w9, ew9⟩ : ∃ wqq, (wy3.setCell ⟨blk, off + (j3), none⟩ (enc dk[a]!)).setCell ⟨blk, off + (a), none⟩ (enc dk[j3]!) = wqq := ⟨_, rfl⟩
                              have HAw9 : Hid (RowAt enc w0 blk off size (swp dk (j3) (a)) w9) := by rw [← ew9]; exact HAwy3.out.swapped (j3) (a) (by omega) (by omega)
                              have HGw9 : Hid (W1.grownBy w9 (some blk)) := by rw [← ew9]; exact grown_grown (grown_grown HGwy3.out (grown_setCellS _ _ _)) (grown_setCellS _ _ _)
                              rw [ew9] at hs
                              have HSWw9 := Lib.hid hs
                              clear hs ew9
                              go_wp2
                              rw [HSWw9.out, Oper.upon_value]
                              clear e1w9 HSWw9

                              go_wp2
                              refine bodyPost_ret (v := .tuple #[.int .i64 j3, .bool false]) ?_ rfl ⟨by rw [HE.out], by rw [HE.out]; exact HAw9.out, grown_grown HG1.out HGw9.out⟩
                              simp [results, Tryz.results123, go_sem]
                            · exact absurd (by omega : i3 > j3) h8
                    · have h4i : ¬ (i3 : Int) ≤ (q : Int) := by omega
                      have HU3 : Hid (scanUp (fun x => lt x dk[a]!) dk q p = i3) := by unfold Hid; rw [← HUU3.out]; exact upStop (.inl h4)
                      go_wp2
                      go_loopw [11] (fun vj wr => ∃ (j3 : Nat) (wo : World), vj = .int .i64 j3 ∧ wo = wr ∧ j3 ≤ q ∧ i3 ≤ j3 + 2 ∧ Hid (RowAt enc w0 blk off size dk wo) ∧ Hid (W1.grownBy wo (some blk)) ∧ Hid (scanDown (fun x => !lt x dk[a]!) dk i3 j3 = scanDown (fun x => !lt x dk[a]!) dk i3 q)) (fun vj _ => (intOf vj).toNat)
                      case atStart => exact ⟨q, _, rfl, rfl, Nat.le_refl _, by omega, HAwu3, HGwu3, rfl⟩
                      case round =>
                        obtain ⟨j3, wy3, rfl, rfl, hj3, hij3, HAwy3, HGwy3, HDD3⟩ := hrel
                        by_cases h6 : i3 ≤ j3
                        · exact absurd h6 (by omega)
                        · have h6i : ¬ (i3 : Int) ≤ (j3 : Int) := by omega
                          have HD3 : Hid (scanDown (fun x => !lt x dk[a]!) dk i3 q = j3) := by unfold Hid; rw [← HDD3.out]; exact downStop (.inl h6)
                          by_cases h8 : i3 > j3
                          · have h8i : (j3 : Int) < (i3 : Int) := by omega
                            have HE : Hid (partition lt d a b pivot = (j3, false, swp dk j3 a)) := by unfold Hid; rw [HO2.out, ← HO.out, partEnd HU3.out HD3.out h8]
                            have e1w9 := box_grown HGwy3.out HC1.out HNE.out
                            have hs := HS.out.swap wy3 dk HAwy3.out.holds HAwy3.out.size (j3) (a) (by omega) (by omega)
                            obtain ⟨w9, ew9⟩ : ∃ wqq, (wy3.setCell ⟨blk, off + (j3), none⟩ (enc dk[a]!)).setCell ⟨blk, off + (a), none⟩ (enc dk[j3]!) = wqq := ⟨_, rfl⟩
                            have HAw9 : Hid (RowAt enc w0 blk off size (swp dk (j3) (a)) w9) := by rw [← ew9]; exact HAwy3.out.swapped (j3) (a) (by omega) (by omega)
                            have HGw9 : Hid (W1.grownBy w9 (some blk)) := by rw [← ew9]; exact grown_grown (grown_grown HGwy3.out (grown_setCellS _ _ _)) (grown_setCellS _ _ _)
                            rw [ew9] at hs
                            have HSWw9 := Lib.hid hs
                            clear hs ew9
                            go_wp2
                            rw [HSWw9.out, Oper.upon_value]
                            clear e1w9 HSWw9

                            go_wp2
                            refine bodyPost_ret (v := .tuple #[.int .i64 j3, .bool false]) ?_ rfl ⟨by rw [HE.out], by rw [HE.out]; exact HAw9.out, grown_grown HG1.out HGw9.out⟩
                            simp [results, Tryz.results123, go_sem]
                          · exact absurd (by omega : i3 > j3) h8
          · have h6i : ¬ (i2 : Int) ≤ (j2 : Int) := by omega
            have HD2 : Hid (scanDown (fun x => !lt x d0[a]!) d0 i2 j = j2) := by unfold Hid; rw [← HDD2.out]; exact downStop (.inl h6)
            by_cases h8 : i2 > j2
            · have h8i : (j2 : Int) < (i2 : Int) := by omega
              have HE : Hid (partition lt d a b pivot = (j2, true, swp d0 j2 a)) := by unfold Hid partition; simp only [ED.out, HJB.out, HIA.out, HU2.out, HD2.out, if_pos h8]
              have e1w8 := box_grown HGwy2.out HC1.out HNE.out
              have hs := HS.out.swap wy2 d0 HAwy2.out.holds HAwy2.out.size (j2) (a) (by omega) (by omega)
              obtain ⟨w8, ew8⟩ : ∃ wqq, (wy2.setCell ⟨blk, off + (j2), none⟩ (enc d0[a]!)).setCell ⟨blk, off + (a), none⟩ (enc d0[j2]!) = wqq := ⟨_, rfl⟩
              have HAw8 : Hid (RowAt enc w0 blk off size (swp d0 (j2) (a)) w8) := by rw [← ew8]; exact HAwy2.out.swapped (j2) (a) (by omega) (by omega)
              have HGw8 : Hid (W1.grownBy w8 (some blk)) := by rw [← ew8]; exact grown_grown (grown_grown HGwy2.out (grown_setCellS _ _ _)) (grown_setCellS _ _ _)
              rw [ew8] at hs
              have HSWw8 := Lib.hid hs
              clear hs ew8
              go_wp2
              rw [HSWw8.out, Oper.upon_value]
              clear e1w8 HSWw8

              go_wp2
              refine bodyPost_ret (v := .tuple #[.int .i64 j2, .bool true]) ?_ rfl ⟨by rw [HE.out], by rw [HE.out]; exact HAw8.out, grown_grown HG1.out HGw8.out⟩
              simp [results, Tryz.results123, go_sem]
            · exact absurd (by omega : i2 > j2) h8
    · have h4i : ¬ (i2 : Int) ≤ (j : Int) := by omega
      have HU2 : Hid (scanUp (fun x => lt x d0[a]!) d0 j i = i2) := by unfold Hid; rw [← HUU2.out]; exact upStop (.inl h4)
      go_wp2
      go_loopw [11] (fun vj wr => ∃ (j2 : Nat) (wo : World), vj = .int .i64 j2 ∧ wo = wr ∧ j2 ≤ j ∧ i2 ≤ j2 + 2 ∧ Hid (RowAt enc w0 blk off size d0 wo) ∧ Hid (W1.grownBy wo (some blk)) ∧ Hid (scanDown (fun x => !lt x d0[a]!) d0 i2 j2 = scanDown (fun x => !lt x d0[a]!) d0 i2 j)) (fun vj _ => (intOf vj).toNat)
      case atStart => exact ⟨j, _, rfl, rfl, Nat.le_refl _, by omega, HAwu2, HGwu2, rfl⟩
      case round =>
        obtain ⟨j2, wy2, rfl, rfl, hj2, hij2, HAwy2, HGwy2, HDD2⟩ := hrel
        by_cases h6 : i2 ≤ j2
        · exact absurd h6 (by omega)
        · have h6i : ¬ (i2 : Int) ≤ (j2 : Int) := by omega
          have HD2 : Hid (scanDown (fun x => !lt x d0[a]!) d0 i2 j = j2) := by unfold Hid; rw [← HDD2.out]; exact downStop (.inl h6)
          by_cases h8 : i2 > j2
          · have h8i : (j2 : Int) < (i2 : Int) := by omega
            have HE : Hid (partition lt d a b pivot = (j2, true, swp d0 j2 a)) := by unfold Hid partition; simp only [ED.out, HJB.out, HIA.out, HU2.out, HD2.out, if_pos h8]
            have e1w8 := box_grown HGwy2.out HC1.out HNE.out
            have hs := HS.out.swap wy2 d0 HAwy2.out.holds HAwy2.out.size (j2) (a) (by omega) (by omega)
            obtain ⟨w8, ew8⟩ : ∃ wqq, (wy2.setCell ⟨blk, off + (j2), none⟩ (enc d0[a]!)).setCell ⟨blk, off + (a), none⟩ (enc d0[j2]!) = wqq := ⟨_, rfl⟩
            have HAw8 : Hid (RowAt enc w0 blk off size (swp d0 (j2) (a)) w8) := by rw [← ew8]; exact HAwy2.out.swapped (j2) (a) (by omega) (by omega)
            have HGw8 : Hid (W1.grownBy w8 (some blk)) := by rw [← ew8]; exact grown_grown (grown_grown HGwy2.out (grown_setCellS _ _ _)) (grown_setCellS _ _ _)
            rw [ew8] at hs
            have HSWw8 := Lib.hid hs
            clear hs ew8
            go_wp2
            rw [HSWw8.out, Oper.upon_value]
            clear e1w8 HSWw8

            go_wp2
            refine bodyPost_ret (v := .tuple #[.int .i64 j2, .bool true]) ?_ rfl ⟨by rw [HE.out], by rw [HE.out]; exact HAw8.out, grown_grown HG1.out HGw8.out⟩
            simp [results, Tryz.results123, go_sem]
          · exact absurd (by omega : i2 > j2) h8
end
end Go.Proofs.YtcgihpfanfbonaaGreatDoor
