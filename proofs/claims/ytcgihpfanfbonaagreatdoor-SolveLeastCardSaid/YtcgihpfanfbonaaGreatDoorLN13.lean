/-
  sort.order2_func, sort.median_func, sort.medianAdjacent_func under a less that lays blocks.
-/
import Derived.Test.YtcgihpfanfbonaaGreatDoorLN11
namespace Go.Proofs.YtcgihpfanfbonaaGreatDoor
open Go.RowKit Go.Sort
set_option linter.unusedVariables false
set_option linter.unusedSimpArgs false
section
variable {α : Type} [Inhabited α] {enc : α → Value} {lt : α → α → Bool} {g sf blk off size : Nat} {lb sb : Array Value} {w0 : World}

/-- A block but the one that is written, behind what is done. -/
theorem box_grown2 {cb : Nat} {W1 wo : World} {b o : Nat} {v : Value} (h : W1.grownBy wo (some cb)) (hc : W1.cell? ⟨b, o, none⟩ = some v) (hne : b ≠ cb) : wo.cell? ⟨b, o, none⟩ = some v :=
  grown_cell h hc (fun e => hne (by cases e; rfl))
set_option maxHeartbeats 2000000 in
set_option maxRecDepth 100000 in
theorem order2F_calls (S : Sorter enc lt g lb sf sb w0 blk off size) (a b n cb : Nat) (d : Array α) (W : World) (hA : RowAt enc w0 blk off size d W) (ha : a < size) (hb : b < size)
    (hc : W.cell? ⟨cb, 0, none⟩ = some (.int .i64 n)) (hf : W.frozen? ⟨cb, 0, none⟩ = false) (hlow : w0.heap.size ≤ cb) (hn : n ≤ 1000) :
    Calls Tryz.prog 177 #[.agg #[.func (.func g) #[] lb, .func (.func sf) #[] sb], .int .i64 a, .int .i64 b, .pointer (some ⟨cb, 0, none⟩)] W fun e w' =>
      e = .returned (.tuple #[.int .i64 (order2 lt d a b n).1, .int .i64 (order2 lt d a b n).2.1]) ∧ RowAt enc w0 blk off size d w' ∧ (w'.cell? ⟨cb, 0, none⟩ = some (.int .i64 (order2 lt d a b n).2.2) ∧ w'.frozen? ⟨cb, 0, none⟩ = false) ∧ W.grownBy w' (some cb) := by
  obtain ⟨W1, eW⟩ : ∃ W1, W.alloc (.cells #[.func (.func g) #[] lb, .func (.func sf) #[] sb] 130) = W1 := ⟨_, rfl⟩
  obtain ⟨z1, hW, m1⟩ := boxes1 eW
  have c0 := m1 0
  have c1 := m1 1
  simp only [List.getElem?_toArray, List.getElem?_cons_zero, List.getElem?_cons_succ] at c0 c1
  have hbk : blk < W.heap.size := hA.there S.low
  have HA1 : Hid (RowAt enc w0 blk off size d W1) := hA.below S.low hW
  have HG1 : Hid (W.grownBy W1 (some blk)) := grown_below (World.grownBy.refl _ _) hW
  have HNE : Hid (W.heap.size ≠ blk) := by unfold Hid; omega
  have hcl : cb < W.heap.size := cell_lt hc
  have hc1 : W1.cell? ⟨cb, 0, none⟩ = some (.int .i64 n) := (hW.cell (p := ⟨cb, 0, none⟩) hcl).trans hc
  have hf1 : W1.frozen? ⟨cb, 0, none⟩ = false := (hW.frozen (p := ⟨cb, 0, none⟩) hcl).trans hf
  have HG2 : Hid (W.grownBy W1 (some cb)) := grown_below (World.grownBy.refl _ _) hW
  have HNC : Hid (W.heap.size ≠ cb) := by unfold Hid; omega
  have HS := Lib.hid S
  have hsm := S.small
  have eg := S.eg
  have HC0 := Lib.hid c0
  have HC1 := Lib.hid c1
  have HCN := Lib.hid hc1
  have HFN := Lib.hid hf1
  clear m1 z1 hW c0 c1 S hA hc hf hc1 hf1
  go_enter Tryz.func177, Tryz.ntmps177
  have hl := HS.out.less _ _ HA1.out b a hb ha
  cases h0 : lt d[b]! d[a]! with
  | true =>
    have HO : Hid (order2 lt d a b n = (b, a, n + 1)) := by unfold Hid order2; rw [h0]; rfl
    rw [h0] at hl
    have HL := Lib.hid hl
    clear hl h0
    have e0 := HC0.out
    go_wp2_with (fail)
    refine HL.out.mono ?_
    rintro e w2 ⟨rfl, hb2⟩
    have HA2 : Hid (RowAt enc w0 blk off size d w2) := HA1.out.below HS.out.low hb2
    have cn : w2.cell? ⟨cb, 0, none⟩ = some (.int .i64 n) := (hb2.cell (p := ⟨cb, 0, none⟩) (cell_lt HCN.out)).trans HCN.out
    have fn : w2.frozen? ⟨cb, 0, none⟩ = false := (hb2.frozen (p := ⟨cb, 0, none⟩) (cell_lt HCN.out)).trans HFN.out
    obtain ⟨w3, ew3⟩ : ∃ wy, w2.setCell ⟨cb, 0, none⟩ (.int .i64 ((n : Int) + 1)) = wy := ⟨_, rfl⟩
    have hg3 : w2.grownBy w3 (some cb) := by rw [← ew3]; exact grown_setCellS _ _ _
    have HA3 : Hid (RowAt enc w0 blk off size d w3) := HA2.out.other HS.out.low hg3 hlow
    have HG3 : Hid (W.grownBy w3 (some cb)) := grown_grown (grown_below HG2.out hb2) hg3
    have HC3 : Hid (w3.cell? ⟨cb, 0, none⟩ = some (.int .i64 ((n : Int) + 1))) := by rw [← ew3]; exact World.cell?_setCell_same _ _ _ cn
    have HF3 : Hid (w3.frozen? ⟨cb, 0, none⟩ = false) := by rw [← ew3, Hid, World.frozen?_setCell]; exact fn
    clear hb2 hg3
    go_wp2
    refine bodyPost_ret (v := .tuple #[.int .i64 b, .int .i64 a]) ?_ rfl ⟨by rw [HO.out], HA3.out, by rw [HO.out]; exact ⟨HC3.out.trans (by congr 2), HF3.out⟩, HG3.out⟩
    simp [results, Tryz.results177, go_sem]
  | false =>
    have HO : Hid (order2 lt d a b n = (a, b, n)) := by unfold Hid order2; rw [h0]; rfl
    rw [h0] at hl
    have HL := Lib.hid hl
    clear hl h0
    have e0 := HC0.out
    go_wp2_with (fail)
    refine HL.out.mono ?_
    rintro e w2 ⟨rfl, hb2⟩
    have HA2 : Hid (RowAt enc w0 blk off size d w2) := HA1.out.below HS.out.low hb2
    have HCC : Hid (w2.cell? ⟨cb, 0, none⟩ = some (.int .i64 n)) := (hb2.cell (p := ⟨cb, 0, none⟩) (cell_lt HCN.out)).trans HCN.out
    have HFF : Hid (w2.frozen? ⟨cb, 0, none⟩ = false) := (hb2.frozen (p := ⟨cb, 0, none⟩) (cell_lt HCN.out)).trans HFN.out
    have HG3 : Hid (W.grownBy w2 (some cb)) := grown_below HG2.out hb2
    clear hb2
    go_wp2
    refine bodyPost_ret (v := .tuple #[.int .i64 a, .int .i64 b]) ?_ rfl ⟨by rw [HO.out], HA2.out, by rw [HO.out]; exact ⟨HCC.out, HFF.out⟩, HG3.out⟩
    simp [results, Tryz.results177, go_sem]
theorem order2_size {d : Array α} {a b n s : Nat} (ha : a < s) (hb : b < s) : (order2 lt d a b n).1 < s ∧ (order2 lt d a b n).2.1 < s ∧ (order2 lt d a b n).2.2 ≤ n + 1 := by
  unfold order2
  split
  · exact ⟨hb, ha, Nat.le_refl _⟩
  · exact ⟨ha, hb, Nat.le_succ _⟩

set_option maxHeartbeats 2000000 in
set_option maxRecDepth 100000 in
theorem medianF_calls (S : Sorter enc lt g lb sf sb w0 blk off size) (a b c n cb : Nat) (d : Array α) (W : World) (hA : RowAt enc w0 blk off size d W) (ha : a < size) (hb : b < size) (hcz : c < size)
    (hc : W.cell? ⟨cb, 0, none⟩ = some (.int .i64 n)) (hf : W.frozen? ⟨cb, 0, none⟩ = false) (hlow : w0.heap.size ≤ cb) (hn : n ≤ 900) :
    Calls Tryz.prog 161 #[.agg #[.func (.func g) #[] lb, .func (.func sf) #[] sb], .int .i64 a, .int .i64 b, .int .i64 c, .pointer (some ⟨cb, 0, none⟩)] W fun e w' =>
      e = .returned (.int .i64 (median lt d a b c n).1) ∧ RowAt enc w0 blk off size d w' ∧ (w'.cell? ⟨cb, 0, none⟩ = some (.int .i64 (median lt d a b c n).2) ∧ w'.frozen? ⟨cb, 0, none⟩ = false) ∧ W.grownBy w' (some cb) := by
  obtain ⟨W1, eW⟩ : ∃ W1, W.alloc (.cells #[.func (.func g) #[] lb, .func (.func sf) #[] sb] 130) = W1 := ⟨_, rfl⟩
  obtain ⟨z1, hW, m1⟩ := boxes1 eW
  have c0 := m1 0
  have c1 := m1 1
  simp only [List.getElem?_toArray, List.getElem?_cons_zero, List.getElem?_cons_succ] at c0 c1
  have hbk : blk < W.heap.size := hA.there S.low
  have HA1 : Hid (RowAt enc w0 blk off size d W1) := hA.below S.low hW
  have HG1 : Hid (W.grownBy W1 (some blk)) := grown_below (World.grownBy.refl _ _) hW
  have HNE : Hid (W.heap.size ≠ blk) := by unfold Hid; omega
  have hcl : cb < W.heap.size := cell_lt hc
  have hc1 : W1.cell? ⟨cb, 0, none⟩ = some (.int .i64 n) := (hW.cell (p := ⟨cb, 0, none⟩) hcl).trans hc
  have hf1 : W1.frozen? ⟨cb, 0, none⟩ = false := (hW.frozen (p := ⟨cb, 0, none⟩) hcl).trans hf
  have HG2 : Hid (W.grownBy W1 (some cb)) := grown_below (World.grownBy.refl _ _) hW
  have HNC : Hid (W.heap.size ≠ cb) := by unfold Hid; omega
  have HS := Lib.hid S
  have hsm := S.small
  have eg := S.eg
  have HC0 := Lib.hid c0
  have HC1 := Lib.hid c1
  have HCN := Lib.hid hc1
  have HFN := Lib.hid hf1
  clear m1 z1 hW c0 c1 S hA hc hf hc1 hf1
  go_enter Tryz.func161, Tryz.ntmps161
  have HGN0 : Hid (W1.grownBy W1 (some cb)) := World.grownBy.refl _ _
  have e02 := box_grown2 HGN0.out HC0.out HNC.out
  have e12 := box_grown2 HGN0.out HC1.out HNC.out
  obtain ⟨r2, hr2⟩ : ∃ r, order2 lt d a b n = r := ⟨_, rfl⟩
  have hz2 := order2_size (lt := lt) (d := d) (a := a) (b := b) (n := n) (s := size) (by omega) (by omega)
  have hO := order2F_calls HS.out a b (n) cb d W1 HA1.out (by omega) (by omega) HCN.out HFN.out hlow (by omega)
  rw [hr2] at hO hz2
  have HO2 := Lib.hid hO
  have HR2 := Lib.hid hr2
  obtain ⟨x2, y2, n2⟩ := r2
  simp only at hz2
  clear hO hr2
  go_wp2_with (fail)
  refine HO2.out.mono ?_
  rintro e w2 ⟨rfl, ha2, ⟨hc2, hf2⟩, hg2⟩
  have HAN2 := Lib.hid ha2
  have HCN2 := Lib.hid hc2
  have HFN2 := Lib.hid hf2
  have HGN2 := Lib.hid (grown_grown HGN0.out hg2)
  clear ha2 hc2 hf2 hg2 e02 e12 HO2

  have e03 := box_grown2 HGN2.out HC0.out HNC.out
  have e13 := box_grown2 HGN2.out HC1.out HNC.out
  obtain ⟨r3, hr3⟩ : ∃ r, order2 lt d y2 c n2 = r := ⟨_, rfl⟩
  have hz3 := order2_size (lt := lt) (d := d) (a := y2) (b := c) (n := n2) (s := size) (by omega) (by omega)
  have hO := order2F_calls HS.out y2 c (n2) cb d w2 HAN2.out (by omega) (by omega) HCN2.out HFN2.out hlow (by omega)
  rw [hr3] at hO hz3
  have HO3 := Lib.hid hO
  have HR3 := Lib.hid hr3
  obtain ⟨x3, y3, n3⟩ := r3
  simp only at hz3
  clear hO hr3
  go_wp2_with (fail)
  refine HO3.out.mono ?_
  rintro e w3 ⟨rfl, ha3, ⟨hc3, hf3⟩, hg3⟩
  have HAN3 := Lib.hid ha3
  have HCN3 := Lib.hid hc3
  have HFN3 := Lib.hid hf3
  have HGN3 := Lib.hid (grown_grown HGN2.out hg3)
  clear ha3 hc3 hf3 hg3 e03 e13 HO3

  have e04 := box_grown2 HGN3.out HC0.out HNC.out
  have e14 := box_grown2 HGN3.out HC1.out HNC.out
  obtain ⟨r4, hr4⟩ : ∃ r, order2 lt d x2 x3 n3 = r := ⟨_, rfl⟩
  have hz4 := order2_size (lt := lt) (d := d) (a := x2) (b := x3) (n := n3) (s := size) (by omega) (by omega)
  have hO := order2F_calls HS.out x2 x3 (n3) cb d w3 HAN3.out (by omega) (by omega) HCN3.out HFN3.out hlow (by omega)
  rw [hr4] at hO hz4
  have HO4 := Lib.hid hO
  have HR4 := Lib.hid hr4
  obtain ⟨x4, y4, n4⟩ := r4
  simp only at hz4
  clear hO hr4
  go_wp2_with (fail)
  refine HO4.out.mono ?_
  rintro e w4 ⟨rfl, ha4, ⟨hc4, hf4⟩, hg4⟩
  have HAN4 := Lib.hid ha4
  have HCN4 := Lib.hid hc4
  have HFN4 := Lib.hid hf4
  have HGN4 := Lib.hid (grown_grown HGN3.out hg4)
  clear ha4 hc4 hf4 hg4 e04 e14 HO4

  have HM : Hid (median lt d a b c n = (y4, n4)) := by unfold Hid median; simp only [HR2.out, HR3.out, HR4.out]
  go_wp2
  refine bodyPost_ret (v := .int .i64 y4) ?_ rfl ⟨by rw [HM.out], HAN4.out, by rw [HM.out]; exact ⟨HCN4.out, HFN4.out⟩, grown_grown HG2.out HGN4.out⟩
  simp [results, Tryz.results161, go_sem]

set_option maxHeartbeats 2000000 in
set_option maxRecDepth 100000 in
theorem medAdjF_calls (S : Sorter enc lt g lb sf sb w0 blk off size) (a n cb : Nat) (d : Array α) (W : World) (hA : RowAt enc w0 blk off size d W) (ha : 1 ≤ a) (ha2 : a + 1 < size)
    (hc : W.cell? ⟨cb, 0, none⟩ = some (.int .i64 n)) (hf : W.frozen? ⟨cb, 0, none⟩ = false) (hlow : w0.heap.size ≤ cb) (hn : n ≤ 900) :
    Calls Tryz.prog 160 #[.agg #[.func (.func g) #[] lb, .func (.func sf) #[] sb], .int .i64 a, .pointer (some ⟨cb, 0, none⟩)] W fun e w' =>
      e = .returned (.int .i64 (medianAdjacent lt d a n).1) ∧ RowAt enc w0 blk off size d w' ∧ (w'.cell? ⟨cb, 0, none⟩ = some (.int .i64 (medianAdjacent lt d a n).2) ∧ w'.frozen? ⟨cb, 0, none⟩ = false) ∧ W.grownBy w' (some cb) := by
  obtain ⟨W1, eW⟩ : ∃ W1, W.alloc (.cells #[.func (.func g) #[] lb, .func (.func sf) #[] sb] 130) = W1 := ⟨_, rfl⟩
  obtain ⟨z1, hW, m1⟩ := boxes1 eW
  have c0 := m1 0
  have c1 := m1 1
  simp only [List.getElem?_toArray, List.getElem?_cons_zero, List.getElem?_cons_succ] at c0 c1
  have hbk : blk < W.heap.size := hA.there S.low
  have HA1 : Hid (RowAt enc w0 blk off size d W1) := hA.below S.low hW
  have HG1 : Hid (W.grownBy W1 (some blk)) := grown_below (World.grownBy.refl _ _) hW
  have HNE : Hid (W.heap.size ≠ blk) := by unfold Hid; omega
  have hcl : cb < W.heap.size := cell_lt hc
  have hc1 : W1.cell? ⟨cb, 0, none⟩ = some (.int .i64 n) := (hW.cell (p := ⟨cb, 0, none⟩) hcl).trans hc
  have hf1 : W1.frozen? ⟨cb, 0, none⟩ = false := (hW.frozen (p := ⟨cb, 0, none⟩) hcl).trans hf
  have HG2 : Hid (W.grownBy W1 (some cb)) := grown_below (World.grownBy.refl _ _) hW
  have HNC : Hid (W.heap.size ≠ cb) := by unfold Hid; omega
  have HS := Lib.hid S
  have hsm := S.small
  have eg := S.eg
  have HC0 := Lib.hid c0
  have HC1 := Lib.hid c1
  have HCN := Lib.hid hc1
  have HFN := Lib.hid hf1
  clear m1 z1 hW c0 c1 S hA hc hf hc1 hf1
  go_enter Tryz.func160, Tryz.ntmps160
  have hO := medianF_calls HS.out (a - 1) a (a + 1) n cb d W1 HA1.out (by omega) (by omega) (by omega) HCN.out HFN.out hlow hn
  rw [show (((a - 1 : Nat) : Int)) = (a : Int) - 1 by omega, show (((a + 1 : Nat) : Int)) = (a : Int) + 1 by omega] at hO
  have HO := Lib.hid hO
  have e0 := HC0.out
  have e1 := HC1.out
  clear hO
  go_wp2_with (fail)
  refine HO.out.mono ?_
  rintro e w2 ⟨rfl, ha2, ⟨hc2, hf2⟩, hg2⟩
  have HX := Lib.hid (And.intro ha2 (And.intro (And.intro hc2 hf2) (grown_grown HG2.out hg2)))
  clear ha2 hc2 hf2 hg2
  go_wp2
  refine bodyPost_ret (v := .int .i64 (median lt d (a - 1) a (a + 1) n).1) ?_ rfl ⟨rfl, HX.out⟩
  simp [results, Tryz.results160, go_sem]
end
end Go.Proofs.YtcgihpfanfbonaaGreatDoor
