/-
  sort.choosePivot_func under a less that lays blocks.
-/
import Derived.Test.YtcgihpfanfbonaaGreatDoorLN13
namespace Go.Proofs.YtcgihpfanfbonaaGreatDoor
open Go.RowKit Go.Sort
set_option linter.unusedVariables false
set_option linter.unusedSimpArgs false
section
variable {α : Type} [Inhabited α] {enc : α → Value} {lt : α → α → Bool} {g sf blk off size : Nat} {lb sb : Array Value} {w0 : World}

def hintV : Hint → Int
  | .unknown => 0
  | .increasing => 1
  | .decreasing => 2
theorem median_size {d : Array α} {a b c n s : Nat} (ha : a < s) (hb : b < s) (hc : c < s) : (median lt d a b c n).1 < s ∧ (median lt d a b c n).2 ≤ n + 3 := by
  have h1 := order2_size (lt := lt) (d := d) (n := n) ha hb
  have h2 := order2_size (lt := lt) (d := d) (n := (order2 lt d a b n).2.2) h1.2.1 hc
  have h3 := order2_size (lt := lt) (d := d) (n := (order2 lt d (order2 lt d a b n).2.1 c (order2 lt d a b n).2.2).2.2) h1.1 h2.1
  exact ⟨h3.2.1, by show _ ≤ _; have := h3.2.2; have := h2.2.2; have := h1.2.2; unfold median; simp only; omega⟩
set_option maxHeartbeats 4000000 in
set_option maxRecDepth 100000 in
theorem pivotF_calls (S : Sorter enc lt g lb sf sb w0 blk off size) (a b : Nat) (d : Array α) (W : World) (hA : RowAt enc w0 blk off size d W) (hab : a + 12 < b) (hb : b ≤ size) :
    Calls Tryz.prog 119 #[.agg #[.func (.func g) #[] lb, .func (.func sf) #[] sb], .int .i64 a, .int .i64 b] W fun e w' =>
      e = .returned (.tuple #[.int .i64 (choosePivot lt d a b).1, .int .i64 (hintV (choosePivot lt d a b).2)]) ∧ RowAt enc w0 blk off size d w' ∧ W.grownBy w' (some blk) := by
  obtain ⟨q, hq⟩ : ∃ q, (b - a) / 4 = q := ⟨_, rfl⟩
  have hq1 : 3 ≤ q := by omega
  have hq2 : 4 * q ≤ b - a := by omega
  have hdiv : Int.tdiv ((b : Int) - (a : Int)) 4 = (q : Int) := by rw [Int.tdiv_eq_ediv_of_nonneg (by omega)]; omega
  obtain ⟨W1, eW⟩ : ∃ W1, W.alloc (.cells #[.func (.func g) #[] lb, .func (.func sf) #[] sb] 130) = W1 := ⟨_, rfl⟩
  obtain ⟨z1, hW, m1⟩ := boxes1 eW
  have c0 := m1 0
  have c1 := m1 1
  simp only [List.getElem?_toArray, List.getElem?_cons_zero, List.getElem?_cons_succ] at c0 c1
  have hbk : blk < W.heap.size := hA.there S.low
  have HA1 : Hid (RowAt enc w0 blk off size d W1) := hA.below S.low hW
  have HG1 : Hid (W.grownBy W1 (some blk)) := grown_below (World.grownBy.refl _ _) hW
  have HNE : Hid (W.heap.size ≠ blk) := by unfold Hid; omega
  have HS := Lib.hid S
  have hsm := S.small
  have eg := S.eg
  have HC0 := Lib.hid c0
  have HC1 := Lib.hid c1
  clear m1 z1 hW c0 c1 S hA
  obtain ⟨W2, eW2⟩ : ∃ W2, W1.alloc (.cells #[.int .i64 0] 3) = W2 := ⟨_, rfl⟩
  obtain ⟨cb, ecb⟩ : ∃ cb, W1.heap.size = cb := ⟨_, rfl⟩
  obtain ⟨z2, hW2, m2⟩ := boxes1 eW2
  have hx0 := m2 0
  have hxf : W2.frozen? ⟨W1.heap.size, 0, none⟩ = false := by rw [← eW2]; exact World.frozen?_alloc_at _ _ _ _ rfl
  simp only [List.getElem?_toArray, List.getElem?_cons_zero] at hx0
  have hlt1 : W.heap.size < W1.heap.size := cell_lt HC0.out
  have HAN0 : Hid (RowAt enc w0 blk off size d W2) := HA1.out.below HS.out.low hW2
  have HD0 : Hid (W2.cell? ⟨W.heap.size, 0, none⟩ = some (.func (.func g) #[] lb)) := (hW2.cell (p := ⟨W.heap.size, 0, none⟩) hlt1).trans HC0.out
  have HD1 : Hid (W2.cell? ⟨W.heap.size, 1, none⟩ = some (.func (.func sf) #[] sb)) := (hW2.cell (p := ⟨W.heap.size, 1, none⟩) hlt1).trans HC1.out
  have HLOW : Hid (w0.heap.size ≤ cb) := by have := HA1.out.grow.size; unfold Hid; omega
  have HNC : Hid (W.heap.size ≠ cb) := by unfold Hid; omega
  have HGN0 : Hid (W2.grownBy W2 (some cb)) := World.grownBy.refl _ _
  have HEND : Hid (∀ V, W2.grownBy V (some cb) → W.grownBy V (some blk)) := fun V h => by
    have h2 := grown_below HG1.out hW2
    exact ⟨h.os.trans h2.os, h.tape.trans h2.tape, h.output.trans h2.output, Nat.le_trans h2.size h.size, fun k hk hne => (h.block k (Nat.lt_of_lt_of_le hk h2.size) (fun e => by cases e; omega)).trans (h2.block k hk hne)⟩
  rw [ecb] at hx0 hxf
  have HCN0 : Hid (W2.cell? ⟨cb, 0, none⟩ = some (.int .i64 (0 : Nat))) := hx0
  have HFN0 := Lib.hid hxf
  clear m2 z2 hW2 hx0 hxf hlt1
  go_enter Tryz.func119, Tryz.ntmps119
  by_cases h50 : 50 ≤ b - a
  · have h50i : (50 : Int) ≤ (b : Int) - (a : Int) := by omega
    have e02 := box_grown2 HGN0.out HD0.out HNC.out
    have e12 := box_grown2 HGN0.out HD1.out HNC.out
    obtain ⟨r2, hr2⟩ : ∃ r, medianAdjacent lt d (a + q) 0 = r := ⟨_, rfl⟩
    have hz2 := median_size (lt := lt) (d := d) (a := (a + q) - 1) (b := (a + q)) (c := (a + q) + 1) (n := 0) (s := size) (by omega) (by omega) (by omega)
    have hO := medAdjF_calls HS.out (a + q) (0) cb d W2 HAN0.out (by omega) (by omega) HCN0.out HFN0.out HLOW.out (by omega)
    rw [show median lt d ((a + q) - 1) (a + q) ((a + q) + 1) 0 = r2 from hr2] at hz2
    rw [hr2] at hO
    have HO2 := Lib.hid hO
    have HR2 := Lib.hid hr2
    obtain ⟨x2, n2⟩ := r2
    simp only at hz2
    clear hO hr2
    go_wp2_with (fail)
    refine HO2.out.mono ?_
    rintro e w2 ⟨rfl, ha2, ⟨hc2, hf2⟩, hg2⟩
    have HAN2 := Lib.hid ha2
    have HCN2 := Lib.hid hc2
    have HFN2 := Lib.hid hf2
    have HGN2 := Lib.hid (grown_grown HGN0.out hg2)
    clear ha2 hc2 hf2 hg2 e02 e12 HO2

    have e03 := box_grown2 HGN2.out HD0.out HNC.out
    have e13 := box_grown2 HGN2.out HD1.out HNC.out
    obtain ⟨r3, hr3⟩ : ∃ r, medianAdjacent lt d (a + q * 2) n2 = r := ⟨_, rfl⟩
    have hz3 := median_size (lt := lt) (d := d) (a := (a + q * 2) - 1) (b := (a + q * 2)) (c := (a + q * 2) + 1) (n := n2) (s := size) (by omega) (by omega) (by omega)
    have hO := medAdjF_calls HS.out (a + q * 2) (n2) cb d w2 HAN2.out (by omega) (by omega) HCN2.out HFN2.out HLOW.out (by omega)
    rw [show median lt d ((a + q * 2) - 1) (a + q * 2) ((a + q * 2) + 1) n2 = r3 from hr3] at hz3
    rw [hr3] at hO
    have HO3 := Lib.hid hO
    have HR3 := Lib.hid hr3
    obtain ⟨x3, n3⟩ := r3
    simp only at hz3
    clear hO hr3
    go_wp2_with (fail)
    refine HO3.out.mono ?_
    rintro e w3 ⟨rfl, ha3, ⟨hc3, hf3⟩, hg3⟩
    have HAN3 := Lib.hid ha3
    have HCN3 := Lib.hid hc3
    have HFN3 := Lib.hid hf3
    have HGN3 := Lib.hid (grown_grown HGN2.out hg3)
    clear ha3 hc3 hf3 hg3 e03 e13 HO3

    have e04 := box_grown2 HGN3.out HD0.out HNC.out
    have e14 := box_grown2 HGN3.out HD1.out HNC.out
    obtain ⟨r4, hr4⟩ : ∃ r, medianAdjacent lt d (a + q * 3) n3 = r := ⟨_, rfl⟩
    have hz4 := median_size (lt := lt) (d := d) (a := (a + q * 3) - 1) (b := (a + q * 3)) (c := (a + q * 3) + 1) (n := n3) (s := size) (by omega) (by omega) (by omega)
    have hO := medAdjF_calls HS.out (a + q * 3) (n3) cb d w3 HAN3.out (by omega) (by omega) HCN3.out HFN3.out HLOW.out (by omega)
    rw [show median lt d ((a + q * 3) - 1) (a + q * 3) ((a + q * 3) + 1) n3 = r4 from hr4] at hz4
    rw [hr4] at hO
    have HO4 := Lib.hid hO
    have HR4 := Lib.hid hr4
    obtain ⟨x4, n4⟩ := r4
    simp only at hz4
    clear hO hr4
    go_wp2_with (fail)
    refine HO4.out.mono ?_
    rintro e w4 ⟨rfl, ha4, ⟨hc4, hf4⟩, hg4⟩
    have HAN4 := Lib.hid ha4
    have HCN4 := Lib.hid hc4
    have HFN4 := Lib.hid hf4
    have HGN4 := Lib.hid (grown_grown HGN3.out hg4)
    clear ha4 hc4 hf4 hg4 e04 e14 HO4

    have e09 := box_grown2 HGN4.out HD0.out HNC.out
    have e19 := box_grown2 HGN4.out HD1.out HNC.out
    obtain ⟨r9, hr9⟩ : ∃ r, median lt d (x2) (x3) (x4) n4 = r := ⟨_, rfl⟩
    have hz9 := median_size (lt := lt) (d := d) (a := x2) (b := x3) (c := x4) (n := n4) (s := size) (by omega) (by omega) (by omega)
    have hO := medianF_calls HS.out (x2) (x3) (x4) (n4) cb d w4 HAN4.out (by omega) (by omega) (by omega) HCN4.out HFN4.out HLOW.out (by omega)
    rw [hr9] at hO hz9
    have HO9 := Lib.hid hO
    have HR9 := Lib.hid hr9
    obtain ⟨x9, n9⟩ := r9
    simp only at hz9
    clear hO hr9
    go_wp2_with (fail)
    refine HO9.out.mono ?_
    rintro e w9 ⟨rfl, ha9, ⟨hc9, hf9⟩, hg9⟩
    have HAN9 := Lib.hid ha9
    have HCN9 := Lib.hid hc9
    have HFN9 := Lib.hid hf9
    have HGN9 := Lib.hid (grown_grown HGN4.out hg9)
    clear ha9 hc9 hf9 hg9 e09 e19 HO9

    have HP : Hid (choosePivot lt d a b = (x9, if n9 = 0 then .increasing else if n9 = 12 then .decreasing else .unknown)) := by
      unfold Hid choosePivot
      simp only [hq, Nat.mul_one, if_pos (show b - a ≥ 8 by omega), if_pos (show b - a ≥ 50 by omega), HR2.out, HR3.out, HR4.out, HR9.out]

    have hcc := HCN9.out
    by_cases hn0 : n9 = 0
    · subst hn0
      go_wp2
      refine bodyPost_ret (v := .tuple #[.int .i64 x9, .int .i64 1]) ?_ rfl ⟨by rw [HP.out]; rfl, HAN9.out, HEND.out _ HGN9.out⟩
      simp [results, Tryz.results119, go_sem]
    · have hni : ¬ (n9 : Int) = 0 := by omega
      have hnb : ((n9 : Int) == 0) = false := beq_eq_false_iff_ne.2 (by omega)
      by_cases hn12 : n9 = 12
      · subst hn12
        go_wp2
        refine bodyPost_ret (v := .tuple #[.int .i64 x9, .int .i64 2]) ?_ rfl ⟨by rw [HP.out]; rfl, HAN9.out, HEND.out _ HGN9.out⟩
        simp [results, Tryz.results119, go_sem]
      · have hnj : ¬ (n9 : Int) = 12 := by omega
        have hnc : ((n9 : Int) == 12) = false := beq_eq_false_iff_ne.2 (by omega)
        go_wp2
        refine bodyPost_ret (v := .tuple #[.int .i64 x9, .int .i64 0]) ?_ rfl ⟨by rw [HP.out, if_neg hn0, if_neg hn12]; rfl, HAN9.out, HEND.out _ HGN9.out⟩
        simp [results, Tryz.results119, go_sem]
  · have h50i : ¬ (50 : Int) ≤ (b : Int) - (a : Int) := by omega
    have e09 := box_grown2 HGN0.out HD0.out HNC.out
    have e19 := box_grown2 HGN0.out HD1.out HNC.out
    obtain ⟨r9, hr9⟩ : ∃ r, median lt d (a + q) (a + q * 2) (a + q * 3) 0 = r := ⟨_, rfl⟩
    have hz9 := median_size (lt := lt) (d := d) (a := a + q) (b := a + q * 2) (c := a + q * 3) (n := 0) (s := size) (by omega) (by omega) (by omega)
    have hO := medianF_calls HS.out (a + q) (a + q * 2) (a + q * 3) (0) cb d W2 HAN0.out (by omega) (by omega) (by omega) HCN0.out HFN0.out HLOW.out (by omega)
    rw [hr9] at hO hz9
    have HO9 := Lib.hid hO
    have HR9 := Lib.hid hr9
    obtain ⟨x9, n9⟩ := r9
    simp only at hz9
    clear hO hr9
    go_wp2_with (fail)
    refine HO9.out.mono ?_
    rintro e w9 ⟨rfl, ha9, ⟨hc9, hf9⟩, hg9⟩
    have HAN9 := Lib.hid ha9
    have HCN9 := Lib.hid hc9
    have HFN9 := Lib.hid hf9
    have HGN9 := Lib.hid (grown_grown HGN0.out hg9)
    clear ha9 hc9 hf9 hg9 e09 e19 HO9

    have HP : Hid (choosePivot lt d a b = (x9, if n9 = 0 then .increasing else if n9 = 12 then .decreasing else .unknown)) := by
      unfold Hid choosePivot
      simp only [hq, Nat.mul_one, if_pos (show b - a ≥ 8 by omega), if_neg (show ¬ b - a ≥ 50 by omega), HR9.out]

    have hcc := HCN9.out
    by_cases hn0 : n9 = 0
    · subst hn0
      go_wp2
      refine bodyPost_ret (v := .tuple #[.int .i64 x9, .int .i64 1]) ?_ rfl ⟨by rw [HP.out]; rfl, HAN9.out, HEND.out _ HGN9.out⟩
      simp [results, Tryz.results119, go_sem]
    · have hni : ¬ (n9 : Int) = 0 := by omega
      have hnb : ((n9 : Int) == 0) = false := beq_eq_false_iff_ne.2 (by omega)
      by_cases hn12 : n9 = 12
      · subst hn12
        go_wp2
        refine bodyPost_ret (v := .tuple #[.int .i64 x9, .int .i64 2]) ?_ rfl ⟨by rw [HP.out]; rfl, HAN9.out, HEND.out _ HGN9.out⟩
        simp [results, Tryz.results119, go_sem]
      · have hnj : ¬ (n9 : Int) = 12 := by omega
        have hnc : ((n9 : Int) == 12) = false := beq_eq_false_iff_ne.2 (by omega)
        go_wp2
        refine bodyPost_ret (v := .tuple #[.int .i64 x9, .int .i64 0]) ?_ rfl ⟨by rw [HP.out, if_neg hn0, if_neg hn12]; rfl, HAN9.out, HEND.out _ HGN9.out⟩
        simp [results, Tryz.results119, go_sem]
end
end Go.Proofs.YtcgihpfanfbonaaGreatDoor
