/- Texts of the proof that ParseBrackets holds, part 9; no conditions. -/
import Derived.Test.YtminbehofnnhmaaGreatDoorPB08
namespace Go.Proofs.YtminbehofnnhmaaGreatDoor
set_option linter.unusedVariables false
set_option linter.unusedSimpArgs false
set_option maxHeartbeats 8000000
set_option maxRecDepth 100000
section
open Go.RowKit Go.Maps
section
variable {w : World} {B : Nat} {T : List Tok} {E : Int} {tv : Value} {k dp ns : Nat}
theorem prim_num (h : Rdr w B T E tv k dp ns) (hns : ns < 12) (h2 : (tkNext T k).1 = 2) (hato : ∀ W, Calls Tryz.prog 247 #[.string (tkNext T k).2.2] W fun e w' => e = .returned (.tuple #[.int .i64 (numT (tkNext T k).2.2), .nilIface]) ∧ Below W.heap.size W w') :
 Calls Tryz.prog 167 #[.pointer (some ⟨B, 0, none⟩)] w (Does w B T E tv dp ns ExIs (.ok (.mk 1 (tkNext T k).2.1 (numT (tkNext T k).2.2) 1 ⟨#[]⟩ [] []) (k + 1))) := by
 have hmf := mf_run
 have HL := Hd h.len
 have HBL : Hid (B < w.heap.size) := h.lt
 have HNS := Hd hns
 have H0 := Hd h
 have HKL : Hid (k < T.length) := kind_lt (by omega)
 have HATO := Hd hato
 clear hato
 obtain ⟨W2, eW⟩ : ∃ W2, (w.alloc (.cells #[.pointer (some ⟨B, 0, none⟩)] 102)).alloc (.cells #[.int .i64 0, .int .i64 0, .int .i64 0, .int .i64 0, .string ⟨#[]⟩, .slice none 0 0, .slice none 0 0] 26) = W2 := ⟨_, rfl⟩
 obtain ⟨z2, hb2, m0, m1⟩ := boxes2 eW
 have hP2 : Blk W2 w.heap.size [.pointer (some ⟨B, 0, none⟩)] 102 := by rw [← eW]; exact (Blk.new _ _ _).below ((Below.refl _ _).alloc (Nat.le_refl _) _)
 have hE2 : Blk W2 (w.heap.size + 1) zeroC 26 := by rw [← eW]; exact Blk.new2 _ _ _ _ _
 obtain ⟨W3, eW3⟩ : ∃ W3, W2.drew = W3 := ⟨_, rfl⟩
 have hb3 : Below W2.heap.size W2 W3 := by rw [← eW3]; exact (Below.refl _ _).drew
 have g2 : W2.cell? ⟨w.heap.size, 0, none⟩ = some (.pointer (some ⟨B, 0, none⟩)) := hP2.cell 0
 have g3 : W3.cell? ⟨w.heap.size, 0, none⟩ = some (.pointer (some ⟨B, 0, none⟩)) := (hP2.below hb3).cell 0
 have HR3 := Hd ((h.below hb2).below hb3)
 have HI := Hd (into_calls4 HR3.out (Nat.le_of_lt hns))
 have HP3 := Hd (hP2.below hb3)
 have HE3 := Hd (hE2.below hb3)
 have HA3 := Hd (aside_below (B := B) (hb2.trans (hb3.mono hb2.size)))
 have HNB : Hid (w.heap.size ≠ B ∧ w.heap.size + 1 ≠ B) := by have := h.lt; unfold Hid; omega
 have HZ3 : Hid (W3.heap.size = w.heap.size + 2) := by rw [← eW3]; exact z2
 clear h hns hP2 hE2 hb2 hb3 m0 m1 z2
 go_enter_defers Tryz.func167, Tryz.ntmps167
 go_wp2_with (fail)
 refine wp_region_calm_tail 4 (by kernel_rfl) (by kernel_rfl) ?_
 rw [eW3]
 clear eW3 eW g2
 simp only [List.take_succ_cons, List.take_zero, List.drop_succ_cons, List.drop_zero]
 repeat go_big_quiet_step (fail)
 refine wpQuiet_nil ?_
 go_wp2_with (fail)
 refine HI.out.mono ?_
 rintro e w4 ⟨ha4, he4⟩
 rw [if_pos HNS.out] at he4
 obtain ⟨rfl, hr4⟩ := he4
 have HR4 := Hd hr4
 have HA4 := Hd (HA3.out.trans ha4)
 have HP4 := Hd (HP3.out.aside ha4 HNB.out.1)
 have HE4 := Hd (HE3.out.aside ha4 HNB.out.2)
 have HZ4 : Hid (w.heap.size + 1 < w4.heap.size) := HE4.out.lt
 have g4 : w4.cell? ⟨w.heap.size, 0, none⟩ = some (.pointer (some ⟨B, 0, none⟩)) := HP4.out.cell 0
 have HNX := Hd (next_calls hr4)
 generalize tkNext T k = t at *
 obtain ⟨t0, t1, t2⟩ := t
 have hk2 : (t0 == 2) = true := by simpa using h2
 clear h2
 clear ha4 hr4 g3 HI
 go_wp2_with (fail)
 refine HNX.out.mono ?_
 rintro e w5 ⟨rfl, hb5⟩
 obtain ⟨W6, eW6⟩ : ∃ W6, w5.alloc (.cells #[.int .i64 t0, .int .i64 t1, .string t2] 183) = W6 := ⟨_, rfl⟩
 have hb6 : Below w5.heap.size w5 W6 := by rw [← eW6]; exact (Below.refl _ _).alloc (Nat.le_refl _) _
 have hb56 := hb5.trans (hb6.mono hb5.size)
 have HPS6 : Hid (PS w W6 w5.heap.size B T E tv dp ns (t0, t1, t2) k) := ⟨HR4.out.below hb56, HA4.out.trans (aside_below hb56), HP4.out.below hb56, HE4.out.below hb56, by rw [← eW6]; exact Blk.new _ _ _, by have := HZ4.out; have := hb5.size; omega⟩
 have x0 := HPS6.out.p0
 have y0 := HPS6.out.t0
 clear hb5 hb6 hb56 HR4 HA4 HP4 HE4 HZ4 g4 HNX HP3 HE3 HA3 HR3 HZ3
 have c1 := HPS6.out.rdr.c1
 have f1 := HPS6.out.rdr.fz 1
 have hw : (k : Int) + 1 ≤ 9223372036854775807 := by have h1 := HL.out; have h2 := HKL.out; omega
 obtain ⟨w7, eK⟩ : ∃ W, W6.setCell ⟨B, 1, none⟩ (.int .i64 ((k : Int) + 1)) = W := ⟨_, rfl⟩
 have ha : Aside1 B W6 w7 := by rw [← eK]; exact aside_set _ _
 have hr : Rdr w7 B T E tv (k + 1) dp (ns + 1) := by rw [← eK]; exact HPS6.out.rdr.setK (k + 1)
 have HPS7 := Hd (HPS6.out.step HBL.out ha hr)
 have x7 := HPS7.out.p0
 have y7 := HPS7.out.t0
 clear ha hr
 have ty2 := HPS7.out.t2
 go_wp2_with (fail)
 refine (HATO.out w7).mono ?_
 rintro e w8 ⟨rfl, hb⟩
 have ha := aside_below (B := B) hb
 have hr := HPS7.out.rdr.below hb
 clear hb
 have HPS8 := Hd (HPS7.out.step HBL.out ha hr)
 have x8 := HPS8.out.p0
 have y8 := HPS8.out.t0
 clear ha hr x7 y7 x0 y0 c1 f1 HPS7 eK eW6
 obtain ⟨e0, e1, e2, e3, e4, e5, e6⟩ := HPS8.out.res.cells7
 obtain ⟨f0, f1, f2, f3, f4, f5, f6⟩ := HPS8.out.res.fz7
 have ty1 := HPS8.out.t1
 have ty2 := HPS8.out.t2
 go_wp2_with (fail)
 exact HPS8.out.ret HNS.out H0.out rfl (exIs_leaf _ _ _ _ _ _)
theorem prim_true (h : Rdr w B T E tv k dp ns) (hns : ns < 12) (h2 : (tkNext T k).1 ≠ 2) (htt : tkIs T k tTrue = true) :
 Calls Tryz.prog 167 #[.pointer (some ⟨B, 0, none⟩)] w (Does w B T E tv dp ns ExIs (.ok (.mk 1 (tkNext T k).2.1 1 2 ⟨#[]⟩ [] []) (k + 1))) := by
 have hmf := mf_run
 have HL := Hd h.len
 have HBL : Hid (B < w.heap.size) := h.lt
 have HNS := Hd hns
 have H0 := Hd h
 have HTT := Hd htt
 clear htt
 obtain ⟨W2, eW⟩ : ∃ W2, (w.alloc (.cells #[.pointer (some ⟨B, 0, none⟩)] 102)).alloc (.cells #[.int .i64 0, .int .i64 0, .int .i64 0, .int .i64 0, .string ⟨#[]⟩, .slice none 0 0, .slice none 0 0] 26) = W2 := ⟨_, rfl⟩
 obtain ⟨z2, hb2, m0, m1⟩ := boxes2 eW
 have hP2 : Blk W2 w.heap.size [.pointer (some ⟨B, 0, none⟩)] 102 := by rw [← eW]; exact (Blk.new _ _ _).below ((Below.refl _ _).alloc (Nat.le_refl _) _)
 have hE2 : Blk W2 (w.heap.size + 1) zeroC 26 := by rw [← eW]; exact Blk.new2 _ _ _ _ _
 obtain ⟨W3, eW3⟩ : ∃ W3, W2.drew = W3 := ⟨_, rfl⟩
 have hb3 : Below W2.heap.size W2 W3 := by rw [← eW3]; exact (Below.refl _ _).drew
 have g2 : W2.cell? ⟨w.heap.size, 0, none⟩ = some (.pointer (some ⟨B, 0, none⟩)) := hP2.cell 0
 have g3 : W3.cell? ⟨w.heap.size, 0, none⟩ = some (.pointer (some ⟨B, 0, none⟩)) := (hP2.below hb3).cell 0
 have HR3 := Hd ((h.below hb2).below hb3)
 have HI := Hd (into_calls4 HR3.out (Nat.le_of_lt hns))
 have HP3 := Hd (hP2.below hb3)
 have HE3 := Hd (hE2.below hb3)
 have HA3 := Hd (aside_below (B := B) (hb2.trans (hb3.mono hb2.size)))
 have HNB : Hid (w.heap.size ≠ B ∧ w.heap.size + 1 ≠ B) := by have := h.lt; unfold Hid; omega
 have HZ3 : Hid (W3.heap.size = w.heap.size + 2) := by rw [← eW3]; exact z2
 clear h hns hP2 hE2 hb2 hb3 m0 m1 z2
 go_enter_defers Tryz.func167, Tryz.ntmps167
 go_wp2_with (fail)
 refine wp_region_calm_tail 4 (by kernel_rfl) (by kernel_rfl) ?_
 rw [eW3]
 clear eW3 eW g2
 simp only [List.take_succ_cons, List.take_zero, List.drop_succ_cons, List.drop_zero]
 repeat go_big_quiet_step (fail)
 refine wpQuiet_nil ?_
 go_wp2_with (fail)
 refine HI.out.mono ?_
 rintro e w4 ⟨ha4, he4⟩
 rw [if_pos HNS.out] at he4
 obtain ⟨rfl, hr4⟩ := he4
 have HR4 := Hd hr4
 have HA4 := Hd (HA3.out.trans ha4)
 have HP4 := Hd (HP3.out.aside ha4 HNB.out.1)
 have HE4 := Hd (HE3.out.aside ha4 HNB.out.2)
 have HZ4 : Hid (w.heap.size + 1 < w4.heap.size) := HE4.out.lt
 have g4 : w4.cell? ⟨w.heap.size, 0, none⟩ = some (.pointer (some ⟨B, 0, none⟩)) := HP4.out.cell 0
 have HNX := Hd (next_calls hr4)
 generalize tkNext T k = t at *
 obtain ⟨t0, t1, t2⟩ := t
 have hk2 : (t0 == 2) = false := beq_false_of_ne (by simpa using h2)
 clear h2
 clear ha4 hr4 g3 HI
 go_wp2_with (fail)
 refine HNX.out.mono ?_
 rintro e w5 ⟨rfl, hb5⟩
 obtain ⟨W6, eW6⟩ : ∃ W6, w5.alloc (.cells #[.int .i64 t0, .int .i64 t1, .string t2] 183) = W6 := ⟨_, rfl⟩
 have hb6 : Below w5.heap.size w5 W6 := by rw [← eW6]; exact (Below.refl _ _).alloc (Nat.le_refl _) _
 have hb56 := hb5.trans (hb6.mono hb5.size)
 have HPS6 : Hid (PS w W6 w5.heap.size B T E tv dp ns (t0, t1, t2) k) := ⟨HR4.out.below hb56, HA4.out.trans (aside_below hb56), HP4.out.below hb56, HE4.out.below hb56, by rw [← eW6]; exact Blk.new _ _ _, by have := HZ4.out; have := hb5.size; omega⟩
 have x0 := HPS6.out.p0
 have y0 := HPS6.out.t0
 clear hb5 hb6 hb56 HR4 HA4 HP4 HE4 HZ4 g4 HNX HP3 HE3 HA3 HR3 HZ3
 have h := eat_yes HPS6.out.rdr tTrue HTT.out
 unfold tTrue at h
 have HE := Hd h
 clear h
 go_wp2_with (fail)
 refine HE.out.mono ?_
 rintro e w7 ⟨rfl, ha, hr⟩
 clear HE
 have HPS7 := Hd (HPS6.out.step HBL.out ha hr)
 have x7 := HPS7.out.p0
 have y7 := HPS7.out.t0
 clear ha hr x0 y0 HPS6 
 obtain ⟨e0, e1, e2, e3, e4, e5, e6⟩ := HPS7.out.res.cells7
 obtain ⟨f0, f1, f2, f3, f4, f5, f6⟩ := HPS7.out.res.fz7
 have ty1 := HPS7.out.t1
 have ty2 := HPS7.out.t2
 go_wp2_with (fail)
 exact HPS7.out.ret HNS.out H0.out rfl (exIs_leaf _ _ _ _ _ _)
theorem prim_false (h : Rdr w B T E tv k dp ns) (hns : ns < 12) (h2 : (tkNext T k).1 ≠ 2) (htt : tkIs T k tTrue = false) (htf : tkIs T k tFalse = true) :
 Calls Tryz.prog 167 #[.pointer (some ⟨B, 0, none⟩)] w (Does w B T E tv dp ns ExIs (.ok (.mk 1 (tkNext T k).2.1 0 2 ⟨#[]⟩ [] []) (k + 1))) := by
 have hmf := mf_run
 have HL := Hd h.len
 have HBL : Hid (B < w.heap.size) := h.lt
 have HNS := Hd hns
 have H0 := Hd h
 have HTT := Hd htt
 have HTF := Hd htf
 clear htt htf
 obtain ⟨W2, eW⟩ : ∃ W2, (w.alloc (.cells #[.pointer (some ⟨B, 0, none⟩)] 102)).alloc (.cells #[.int .i64 0, .int .i64 0, .int .i64 0, .int .i64 0, .string ⟨#[]⟩, .slice none 0 0, .slice none 0 0] 26) = W2 := ⟨_, rfl⟩
 obtain ⟨z2, hb2, m0, m1⟩ := boxes2 eW
 have hP2 : Blk W2 w.heap.size [.pointer (some ⟨B, 0, none⟩)] 102 := by rw [← eW]; exact (Blk.new _ _ _).below ((Below.refl _ _).alloc (Nat.le_refl _) _)
 have hE2 : Blk W2 (w.heap.size + 1) zeroC 26 := by rw [← eW]; exact Blk.new2 _ _ _ _ _
 obtain ⟨W3, eW3⟩ : ∃ W3, W2.drew = W3 := ⟨_, rfl⟩
 have hb3 : Below W2.heap.size W2 W3 := by rw [← eW3]; exact (Below.refl _ _).drew
 have g2 : W2.cell? ⟨w.heap.size, 0, none⟩ = some (.pointer (some ⟨B, 0, none⟩)) := hP2.cell 0
 have g3 : W3.cell? ⟨w.heap.size, 0, none⟩ = some (.pointer (some ⟨B, 0, none⟩)) := (hP2.below hb3).cell 0
 have HR3 := Hd ((h.below hb2).below hb3)
 have HI := Hd (into_calls4 HR3.out (Nat.le_of_lt hns))
 have HP3 := Hd (hP2.below hb3)
 have HE3 := Hd (hE2.below hb3)
 have HA3 := Hd (aside_below (B := B) (hb2.trans (hb3.mono hb2.size)))
 have HNB : Hid (w.heap.size ≠ B ∧ w.heap.size + 1 ≠ B) := by have := h.lt; unfold Hid; omega
 have HZ3 : Hid (W3.heap.size = w.heap.size + 2) := by rw [← eW3]; exact z2
 clear h hns hP2 hE2 hb2 hb3 m0 m1 z2
 go_enter_defers Tryz.func167, Tryz.ntmps167
 go_wp2_with (fail)
 refine wp_region_calm_tail 4 (by kernel_rfl) (by kernel_rfl) ?_
 rw [eW3]
 clear eW3 eW g2
 simp only [List.take_succ_cons, List.take_zero, List.drop_succ_cons, List.drop_zero]
 repeat go_big_quiet_step (fail)
 refine wpQuiet_nil ?_
 go_wp2_with (fail)
 refine HI.out.mono ?_
 rintro e w4 ⟨ha4, he4⟩
 rw [if_pos HNS.out] at he4
 obtain ⟨rfl, hr4⟩ := he4
 have HR4 := Hd hr4
 have HA4 := Hd (HA3.out.trans ha4)
 have HP4 := Hd (HP3.out.aside ha4 HNB.out.1)
 have HE4 := Hd (HE3.out.aside ha4 HNB.out.2)
 have HZ4 : Hid (w.heap.size + 1 < w4.heap.size) := HE4.out.lt
 have g4 : w4.cell? ⟨w.heap.size, 0, none⟩ = some (.pointer (some ⟨B, 0, none⟩)) := HP4.out.cell 0
 have HNX := Hd (next_calls hr4)
 generalize tkNext T k = t at *
 obtain ⟨t0, t1, t2⟩ := t
 have hk2 : (t0 == 2) = false := beq_false_of_ne (by simpa using h2)
 clear h2
 clear ha4 hr4 g3 HI
 go_wp2_with (fail)
 refine HNX.out.mono ?_
 rintro e w5 ⟨rfl, hb5⟩
 obtain ⟨W6, eW6⟩ : ∃ W6, w5.alloc (.cells #[.int .i64 t0, .int .i64 t1, .string t2] 183) = W6 := ⟨_, rfl⟩
 have hb6 : Below w5.heap.size w5 W6 := by rw [← eW6]; exact (Below.refl _ _).alloc (Nat.le_refl _) _
 have hb56 := hb5.trans (hb6.mono hb5.size)
 have HPS6 : Hid (PS w W6 w5.heap.size B T E tv dp ns (t0, t1, t2) k) := ⟨HR4.out.below hb56, HA4.out.trans (aside_below hb56), HP4.out.below hb56, HE4.out.below hb56, by rw [← eW6]; exact Blk.new _ _ _, by have := HZ4.out; have := hb5.size; omega⟩
 have x0 := HPS6.out.p0
 have y0 := HPS6.out.t0
 clear hb5 hb6 hb56 HR4 HA4 HP4 HE4 HZ4 g4 HNX HP3 HE3 HA3 HR3 HZ3
 have h := eat_no HPS6.out.rdr tTrue HTT.out
 unfold tTrue at h
 have HE := Hd h
 clear h
 go_wp2_with (fail)
 refine HE.out.mono ?_
 rintro e w7 ⟨rfl, ha, hr⟩
 clear HE
 have HPS7 := Hd (HPS6.out.step HBL.out ha hr)
 have x7 := HPS7.out.p0
 have y7 := HPS7.out.t0
 clear ha hr x0 y0 HPS6 
 have h := eat_yes HPS7.out.rdr tFalse HTF.out
 unfold tFalse at h
 have HE := Hd h
 clear h
 go_wp2_with (fail)
 refine HE.out.mono ?_
 rintro e w8 ⟨rfl, ha, hr⟩
 clear HE
 have HPS8 := Hd (HPS7.out.step HBL.out ha hr)
 have x8 := HPS8.out.p0
 have y8 := HPS8.out.t0
 clear ha hr x7 y7 HPS7 
 obtain ⟨e0, e1, e2, e3, e4, e5, e6⟩ := HPS8.out.res.cells7
 obtain ⟨f0, f1, f2, f3, f4, f5, f6⟩ := HPS8.out.res.fz7
 have ty1 := HPS8.out.t1
 have ty2 := HPS8.out.t2
 go_wp2_with (fail)
 exact HPS8.out.ret HNS.out H0.out rfl (exIs_leaf _ _ _ _ _ _)
theorem prim_var (h : Rdr w B T E tv k dp ns) (hns : ns < 12) (h2 : (tkNext T k).1 ≠ 2) (htt : tkIs T k tTrue = false) (htf : tkIs T k tFalse = false) (h1 : (tkNext T k).1 = 1) (hl : tkIs T (k + 1) tLeft = false) :
 Calls Tryz.prog 167 #[.pointer (some ⟨B, 0, none⟩)] w (Does w B T E tv dp ns ExIs (.ok (.mk 2 (tkNext T k).2.1 0 0 (tkNext T k).2.2 [] []) (k + 1))) := by
 have hmf := mf_run
 have HL := Hd h.len
 have HBL : Hid (B < w.heap.size) := h.lt
 have HNS := Hd hns
 have H0 := Hd h
 have HTT := Hd htt
 have HTF := Hd htf
 clear htt htf
 have HKL : Hid (k < T.length) := kind_lt (by omega)
 have HLL := Hd hl
 clear hl
 obtain ⟨W2, eW⟩ : ∃ W2, (w.alloc (.cells #[.pointer (some ⟨B, 0, none⟩)] 102)).alloc (.cells #[.int .i64 0, .int .i64 0, .int .i64 0, .int .i64 0, .string ⟨#[]⟩, .slice none 0 0, .slice none 0 0] 26) = W2 := ⟨_, rfl⟩
 obtain ⟨z2, hb2, m0, m1⟩ := boxes2 eW
 have hP2 : Blk W2 w.heap.size [.pointer (some ⟨B, 0, none⟩)] 102 := by rw [← eW]; exact (Blk.new _ _ _).below ((Below.refl _ _).alloc (Nat.le_refl _) _)
 have hE2 : Blk W2 (w.heap.size + 1) zeroC 26 := by rw [← eW]; exact Blk.new2 _ _ _ _ _
 obtain ⟨W3, eW3⟩ : ∃ W3, W2.drew = W3 := ⟨_, rfl⟩
 have hb3 : Below W2.heap.size W2 W3 := by rw [← eW3]; exact (Below.refl _ _).drew
 have g2 : W2.cell? ⟨w.heap.size, 0, none⟩ = some (.pointer (some ⟨B, 0, none⟩)) := hP2.cell 0
 have g3 : W3.cell? ⟨w.heap.size, 0, none⟩ = some (.pointer (some ⟨B, 0, none⟩)) := (hP2.below hb3).cell 0
 have HR3 := Hd ((h.below hb2).below hb3)
 have HI := Hd (into_calls4 HR3.out (Nat.le_of_lt hns))
 have HP3 := Hd (hP2.below hb3)
 have HE3 := Hd (hE2.below hb3)
 have HA3 := Hd (aside_below (B := B) (hb2.trans (hb3.mono hb2.size)))
 have HNB : Hid (w.heap.size ≠ B ∧ w.heap.size + 1 ≠ B) := by have := h.lt; unfold Hid; omega
 have HZ3 : Hid (W3.heap.size = w.heap.size + 2) := by rw [← eW3]; exact z2
 clear h hns hP2 hE2 hb2 hb3 m0 m1 z2
 go_enter_defers Tryz.func167, Tryz.ntmps167
 go_wp2_with (fail)
 refine wp_region_calm_tail 4 (by kernel_rfl) (by kernel_rfl) ?_
 rw [eW3]
 clear eW3 eW g2
 simp only [List.take_succ_cons, List.take_zero, List.drop_succ_cons, List.drop_zero]
 repeat go_big_quiet_step (fail)
 refine wpQuiet_nil ?_
 go_wp2_with (fail)
 refine HI.out.mono ?_
 rintro e w4 ⟨ha4, he4⟩
 rw [if_pos HNS.out] at he4
 obtain ⟨rfl, hr4⟩ := he4
 have HR4 := Hd hr4
 have HA4 := Hd (HA3.out.trans ha4)
 have HP4 := Hd (HP3.out.aside ha4 HNB.out.1)
 have HE4 := Hd (HE3.out.aside ha4 HNB.out.2)
 have HZ4 : Hid (w.heap.size + 1 < w4.heap.size) := HE4.out.lt
 have g4 : w4.cell? ⟨w.heap.size, 0, none⟩ = some (.pointer (some ⟨B, 0, none⟩)) := HP4.out.cell 0
 have HNX := Hd (next_calls hr4)
 generalize tkNext T k = t at *
 obtain ⟨t0, t1, t2⟩ := t
 have hk2 : (t0 == 2) = false := beq_false_of_ne (by simpa using h2)
 have hk1 : (t0 == 1) = true := by simpa using h1
 clear h2 h1
 clear ha4 hr4 g3 HI
 go_wp2_with (fail)
 refine HNX.out.mono ?_
 rintro e w5 ⟨rfl, hb5⟩
 obtain ⟨W6, eW6⟩ : ∃ W6, w5.alloc (.cells #[.int .i64 t0, .int .i64 t1, .string t2] 183) = W6 := ⟨_, rfl⟩
 have hb6 : Below w5.heap.size w5 W6 := by rw [← eW6]; exact (Below.refl _ _).alloc (Nat.le_refl _) _
 have hb56 := hb5.trans (hb6.mono hb5.size)
 have HPS6 : Hid (PS w W6 w5.heap.size B T E tv dp ns (t0, t1, t2) k) := ⟨HR4.out.below hb56, HA4.out.trans (aside_below hb56), HP4.out.below hb56, HE4.out.below hb56, by rw [← eW6]; exact Blk.new _ _ _, by have := HZ4.out; have := hb5.size; omega⟩
 have x0 := HPS6.out.p0
 have y0 := HPS6.out.t0
 clear hb5 hb6 hb56 HR4 HA4 HP4 HE4 HZ4 g4 HNX HP3 HE3 HA3 HR3 HZ3
 have h := eat_no HPS6.out.rdr tTrue HTT.out
 unfold tTrue at h
 have HE := Hd h
 clear h
 go_wp2_with (fail)
 refine HE.out.mono ?_
 rintro e w7 ⟨rfl, ha, hr⟩
 clear HE
 have HPS7 := Hd (HPS6.out.step HBL.out ha hr)
 have x7 := HPS7.out.p0
 have y7 := HPS7.out.t0
 clear ha hr x0 y0 HPS6 
 have h := eat_no HPS7.out.rdr tFalse HTF.out
 unfold tFalse at h
 have HE := Hd h
 clear h
 go_wp2_with (fail)
 refine HE.out.mono ?_
 rintro e w8 ⟨rfl, ha, hr⟩
 clear HE
 have HPS8 := Hd (HPS7.out.step HBL.out ha hr)
 have x8 := HPS8.out.p0
 have y8 := HPS8.out.t0
 clear ha hr x7 y7 HPS7 
 have c1 := HPS8.out.rdr.c1
 have f1 := HPS8.out.rdr.fz 1
 have hw : (k : Int) + 1 ≤ 9223372036854775807 := by have h1 := HL.out; have h2 := HKL.out; omega
 obtain ⟨w9, eK⟩ : ∃ W, w8.setCell ⟨B, 1, none⟩ (.int .i64 ((k : Int) + 1)) = W := ⟨_, rfl⟩
 have ha : Aside1 B w8 w9 := by rw [← eK]; exact aside_set _ _
 have hr : Rdr w9 B T E tv (k + 1) dp (ns + 1) := by rw [← eK]; exact HPS8.out.rdr.setK (k + 1)
 have HPS9 := Hd (HPS8.out.step HBL.out ha hr)
 have x9 := HPS9.out.p0
 have y9 := HPS9.out.t0
 clear ha hr
 have h := is_calls HPS9.out.rdr tLeft
 rw [HLL.out] at h
 unfold tLeft at h
 have HE := Hd h
 clear h
 go_wp2_with (fail)
 refine HE.out.mono ?_
 rintro e w10 ⟨rfl, hb⟩
 have ha := aside_below (B := B) hb
 have hr := HPS9.out.rdr.below hb
 clear HE hb
 have HPS10 := Hd (HPS9.out.step HBL.out ha hr)
 have x10 := HPS10.out.p0
 have y10 := HPS10.out.t0
 clear ha hr x9 y9 x8 y8 c1 f1 HPS9 eK
 obtain ⟨e0, e1, e2, e3, e4, e5, e6⟩ := HPS10.out.res.cells7
 obtain ⟨f0, f1, f2, f3, f4, f5, f6⟩ := HPS10.out.res.fz7
 have ty1 := HPS10.out.t1
 have ty2 := HPS10.out.t2
 go_wp2_with (fail)
 exact HPS10.out.ret HNS.out H0.out rfl (exIs_leaf _ _ _ _ _ _)
theorem prim_fail (h : Rdr w B T E tv k dp ns) (hns : ns < 12) (h2 : (tkNext T k).1 ≠ 2) (htt : tkIs T k tTrue = false) (htf : tkIs T k tFalse = false) (h1 : (tkNext T k).1 ≠ 1) (htm : tkIs T k tMinus = false) (htn : tkIs T k tNot = false) (htl : tkIs T k tLeft = false) (htr : tkIs T k tRelease = false) :
 Calls Tryz.prog 167 #[.pointer (some ⟨B, 0, none⟩)] w (Does w B T E tv dp ns ExIs (failP T E 1 k)) := by
 have hmf := mf_run
 have HL := Hd h.len
 have HBL : Hid (B < w.heap.size) := h.lt
 have HNS := Hd hns
 have H0 := Hd h
 have HTT := Hd htt
 have HTF := Hd htf
 have HTM := Hd htm
 have HTN := Hd htn
 have HTL := Hd htl
 have HTR := Hd htr
 clear htt htf htm htn htl htr
 obtain ⟨W2, eW⟩ : ∃ W2, (w.alloc (.cells #[.pointer (some ⟨B, 0, none⟩)] 102)).alloc (.cells #[.int .i64 0, .int .i64 0, .int .i64 0, .int .i64 0, .string ⟨#[]⟩, .slice none 0 0, .slice none 0 0] 26) = W2 := ⟨_, rfl⟩
 obtain ⟨z2, hb2, m0, m1⟩ := boxes2 eW
 have hP2 : Blk W2 w.heap.size [.pointer (some ⟨B, 0, none⟩)] 102 := by rw [← eW]; exact (Blk.new _ _ _).below ((Below.refl _ _).alloc (Nat.le_refl _) _)
 have hE2 : Blk W2 (w.heap.size + 1) zeroC 26 := by rw [← eW]; exact Blk.new2 _ _ _ _ _
 obtain ⟨W3, eW3⟩ : ∃ W3, W2.drew = W3 := ⟨_, rfl⟩
 have hb3 : Below W2.heap.size W2 W3 := by rw [← eW3]; exact (Below.refl _ _).drew
 have g2 : W2.cell? ⟨w.heap.size, 0, none⟩ = some (.pointer (some ⟨B, 0, none⟩)) := hP2.cell 0
 have g3 : W3.cell? ⟨w.heap.size, 0, none⟩ = some (.pointer (some ⟨B, 0, none⟩)) := (hP2.below hb3).cell 0
 have HR3 := Hd ((h.below hb2).below hb3)
 have HI := Hd (into_calls4 HR3.out (Nat.le_of_lt hns))
 have HP3 := Hd (hP2.below hb3)
 have HE3 := Hd (hE2.below hb3)
 have HA3 := Hd (aside_below (B := B) (hb2.trans (hb3.mono hb2.size)))
 have HNB : Hid (w.heap.size ≠ B ∧ w.heap.size + 1 ≠ B) := by have := h.lt; unfold Hid; omega
 have HZ3 : Hid (W3.heap.size = w.heap.size + 2) := by rw [← eW3]; exact z2
 clear h hns hP2 hE2 hb2 hb3 m0 m1 z2
 go_enter_defers Tryz.func167, Tryz.ntmps167
 go_wp2_with (fail)
 refine wp_region_calm_tail 4 (by kernel_rfl) (by kernel_rfl) ?_
 rw [eW3]
 clear eW3 eW g2
 simp only [List.take_succ_cons, List.take_zero, List.drop_succ_cons, List.drop_zero]
 repeat go_big_quiet_step (fail)
 refine wpQuiet_nil ?_
 go_wp2_with (fail)
 refine HI.out.mono ?_
 rintro e w4 ⟨ha4, he4⟩
 rw [if_pos HNS.out] at he4
 obtain ⟨rfl, hr4⟩ := he4
 have HR4 := Hd hr4
 have HA4 := Hd (HA3.out.trans ha4)
 have HP4 := Hd (HP3.out.aside ha4 HNB.out.1)
 have HE4 := Hd (HE3.out.aside ha4 HNB.out.2)
 have HZ4 : Hid (w.heap.size + 1 < w4.heap.size) := HE4.out.lt
 have g4 : w4.cell? ⟨w.heap.size, 0, none⟩ = some (.pointer (some ⟨B, 0, none⟩)) := HP4.out.cell 0
 have HNX := Hd (next_calls hr4)
 generalize tkNext T k = t at *
 obtain ⟨t0, t1, t2⟩ := t
 have hk2 : (t0 == 2) = false := beq_false_of_ne (by simpa using h2)
 have hk1 : (t0 == 1) = false := beq_false_of_ne (by simpa using h1)
 clear h2 h1
 clear ha4 hr4 g3 HI
 go_wp2_with (fail)
 refine HNX.out.mono ?_
 rintro e w5 ⟨rfl, hb5⟩
 obtain ⟨W6, eW6⟩ : ∃ W6, w5.alloc (.cells #[.int .i64 t0, .int .i64 t1, .string t2] 183) = W6 := ⟨_, rfl⟩
 have hb6 : Below w5.heap.size w5 W6 := by rw [← eW6]; exact (Below.refl _ _).alloc (Nat.le_refl _) _
 have hb56 := hb5.trans (hb6.mono hb5.size)
 have HPS6 : Hid (PS w W6 w5.heap.size B T E tv dp ns (t0, t1, t2) k) := ⟨HR4.out.below hb56, HA4.out.trans (aside_below hb56), HP4.out.below hb56, HE4.out.below hb56, by rw [← eW6]; exact Blk.new _ _ _, by have := HZ4.out; have := hb5.size; omega⟩
 have x0 := HPS6.out.p0
 have y0 := HPS6.out.t0
 clear hb5 hb6 hb56 HR4 HA4 HP4 HE4 HZ4 g4 HNX HP3 HE3 HA3 HR3 HZ3
 have h := eat_no HPS6.out.rdr tTrue HTT.out
 unfold tTrue at h
 have HE := Hd h
 clear h
 go_wp2_with (fail)
 refine HE.out.mono ?_
 rintro e w7 ⟨rfl, ha, hr⟩
 clear HE
 have HPS7 := Hd (HPS6.out.step HBL.out ha hr)
 have x7 := HPS7.out.p0
 have y7 := HPS7.out.t0
 clear ha hr x0 y0 HPS6 
 have h := eat_no HPS7.out.rdr tFalse HTF.out
 unfold tFalse at h
 have HE := Hd h
 clear h
 go_wp2_with (fail)
 refine HE.out.mono ?_
 rintro e w8 ⟨rfl, ha, hr⟩
 clear HE
 have HPS8 := Hd (HPS7.out.step HBL.out ha hr)
 have x8 := HPS8.out.p0
 have y8 := HPS8.out.t0
 clear ha hr x7 y7 HPS7 
 have h := eat_no HPS8.out.rdr tMinus HTM.out
 unfold tMinus at h
 have HE := Hd h
 clear h
 go_wp2_with (fail)
 refine HE.out.mono ?_
 rintro e w9 ⟨rfl, ha, hr⟩
 clear HE
 have HPS9 := Hd (HPS8.out.step HBL.out ha hr)
 have x9 := HPS9.out.p0
 have y9 := HPS9.out.t0
 clear ha hr x8 y8 HPS8 
 have h := eat_no HPS9.out.rdr tNot HTN.out
 unfold tNot at h
 have HE := Hd h
 clear h
 go_wp2_with (fail)
 refine HE.out.mono ?_
 rintro e w10 ⟨rfl, ha, hr⟩
 clear HE
 have HPS10 := Hd (HPS9.out.step HBL.out ha hr)
 have x10 := HPS10.out.p0
 have y10 := HPS10.out.t0
 clear ha hr x9 y9 HPS9 
 have h := eat_no HPS10.out.rdr tLeft HTL.out
 unfold tLeft at h
 have HE := Hd h
 clear h
 go_wp2_with (fail)
 refine HE.out.mono ?_
 rintro e w11 ⟨rfl, ha, hr⟩
 clear HE
 have HPS11 := Hd (HPS10.out.step HBL.out ha hr)
 have x11 := HPS11.out.p0
 have y11 := HPS11.out.t0
 clear ha hr x10 y10 HPS10 
 have h := eat_no HPS11.out.rdr tRelease HTR.out
 unfold tRelease at h
 have HE := Hd h
 clear h
 go_wp2_with (fail)
 refine HE.out.mono ?_
 rintro e w12 ⟨rfl, ha, hr⟩
 clear HE
 have HPS12 := Hd (HPS11.out.step HBL.out ha hr)
 have x12 := HPS12.out.p0
 have y12 := HPS12.out.t0
 clear ha hr x11 y11 HPS11 
 have HE := Hd (fail_calls HPS12.out.rdr 1)
 go_wp2_with (fail)
 refine HE.out.mono ?_
 rintro e w13 ⟨rfl, hb⟩
 go_wp2_with (fail)
 exact HPS12.out.bad HBL.out (aside_below hb) (HPS12.out.rdr.below hb).left
theorem prim_par_xbad (h : Rdr w B T E tv k dp ns) (hns : ns < 12) (h2 : (tkNext T k).1 ≠ 2) (htt : tkIs T k tTrue = false) (htf : tkIs T k tFalse = false) (h1 : (tkNext T k).1 ≠ 1) (htm : tkIs T k tMinus = false) (htn : tkIs T k tNot = false) (htl : tkIs T k tLeft = true) {pr : Nat → Rs Ex} (hx : ReadsEx B T E tv dp (ns + 1) 69 #[.pointer (some ⟨B, 0, none⟩), .int .i64 1] pr) {c a : Int} (hq : pr (k + 1) = .bad c a) :
 Calls Tryz.prog 167 #[.pointer (some ⟨B, 0, none⟩)] w (Does w B T E tv dp ns ExIs (.bad c a)) := by
 have hmf := mf_run
 have HL := Hd h.len
 have HBL : Hid (B < w.heap.size) := h.lt
 have HNS := Hd hns
 have H0 := Hd h
 have HTT := Hd htt
 have HTF := Hd htf
 have HTM := Hd htm
 have HTN := Hd htn
 have HTL := Hd htl
 clear htt htf htm htn htl
 have HXX := Hd hx
 clear hx
 have HQ := Hd hq
 clear hq
 obtain ⟨W2, eW⟩ : ∃ W2, (w.alloc (.cells #[.pointer (some ⟨B, 0, none⟩)] 102)).alloc (.cells #[.int .i64 0, .int .i64 0, .int .i64 0, .int .i64 0, .string ⟨#[]⟩, .slice none 0 0, .slice none 0 0] 26) = W2 := ⟨_, rfl⟩
 obtain ⟨z2, hb2, m0, m1⟩ := boxes2 eW
 have hP2 : Blk W2 w.heap.size [.pointer (some ⟨B, 0, none⟩)] 102 := by rw [← eW]; exact (Blk.new _ _ _).below ((Below.refl _ _).alloc (Nat.le_refl _) _)
 have hE2 : Blk W2 (w.heap.size + 1) zeroC 26 := by rw [← eW]; exact Blk.new2 _ _ _ _ _
 obtain ⟨W3, eW3⟩ : ∃ W3, W2.drew = W3 := ⟨_, rfl⟩
 have hb3 : Below W2.heap.size W2 W3 := by rw [← eW3]; exact (Below.refl _ _).drew
 have g2 : W2.cell? ⟨w.heap.size, 0, none⟩ = some (.pointer (some ⟨B, 0, none⟩)) := hP2.cell 0
 have g3 : W3.cell? ⟨w.heap.size, 0, none⟩ = some (.pointer (some ⟨B, 0, none⟩)) := (hP2.below hb3).cell 0
 have HR3 := Hd ((h.below hb2).below hb3)
 have HI := Hd (into_calls4 HR3.out (Nat.le_of_lt hns))
 have HP3 := Hd (hP2.below hb3)
 have HE3 := Hd (hE2.below hb3)
 have HA3 := Hd (aside_below (B := B) (hb2.trans (hb3.mono hb2.size)))
 have HNB : Hid (w.heap.size ≠ B ∧ w.heap.size + 1 ≠ B) := by have := h.lt; unfold Hid; omega
 have HZ3 : Hid (W3.heap.size = w.heap.size + 2) := by rw [← eW3]; exact z2
 clear h hns hP2 hE2 hb2 hb3 m0 m1 z2
 go_enter_defers Tryz.func167, Tryz.ntmps167
 go_wp2_with (fail)
 refine wp_region_calm_tail 4 (by kernel_rfl) (by kernel_rfl) ?_
 rw [eW3]
 clear eW3 eW g2
 simp only [List.take_succ_cons, List.take_zero, List.drop_succ_cons, List.drop_zero]
 repeat go_big_quiet_step (fail)
 refine wpQuiet_nil ?_
 go_wp2_with (fail)
 refine HI.out.mono ?_
 rintro e w4 ⟨ha4, he4⟩
 rw [if_pos HNS.out] at he4
 obtain ⟨rfl, hr4⟩ := he4
 have HR4 := Hd hr4
 have HA4 := Hd (HA3.out.trans ha4)
 have HP4 := Hd (HP3.out.aside ha4 HNB.out.1)
 have HE4 := Hd (HE3.out.aside ha4 HNB.out.2)
 have HZ4 : Hid (w.heap.size + 1 < w4.heap.size) := HE4.out.lt
 have g4 : w4.cell? ⟨w.heap.size, 0, none⟩ = some (.pointer (some ⟨B, 0, none⟩)) := HP4.out.cell 0
 have HNX := Hd (next_calls hr4)
 generalize tkNext T k = t at *
 obtain ⟨t0, t1, t2⟩ := t
 have hk2 : (t0 == 2) = false := beq_false_of_ne (by simpa using h2)
 have hk1 : (t0 == 1) = false := beq_false_of_ne (by simpa using h1)
 clear h2 h1
 clear ha4 hr4 g3 HI
 go_wp2_with (fail)
 refine HNX.out.mono ?_
 rintro e w5 ⟨rfl, hb5⟩
 obtain ⟨W6, eW6⟩ : ∃ W6, w5.alloc (.cells #[.int .i64 t0, .int .i64 t1, .string t2] 183) = W6 := ⟨_, rfl⟩
 have hb6 : Below w5.heap.size w5 W6 := by rw [← eW6]; exact (Below.refl _ _).alloc (Nat.le_refl _) _
 have hb56 := hb5.trans (hb6.mono hb5.size)
 have HPS6 : Hid (PS w W6 w5.heap.size B T E tv dp ns (t0, t1, t2) k) := ⟨HR4.out.below hb56, HA4.out.trans (aside_below hb56), HP4.out.below hb56, HE4.out.below hb56, by rw [← eW6]; exact Blk.new _ _ _, by have := HZ4.out; have := hb5.size; omega⟩
 have x0 := HPS6.out.p0
 have y0 := HPS6.out.t0
 clear hb5 hb6 hb56 HR4 HA4 HP4 HE4 HZ4 g4 HNX HP3 HE3 HA3 HR3 HZ3
 have h := eat_no HPS6.out.rdr tTrue HTT.out
 unfold tTrue at h
 have HE := Hd h
 clear h
 go_wp2_with (fail)
 refine HE.out.mono ?_
 rintro e w7 ⟨rfl, ha, hr⟩
 clear HE
 have HPS7 := Hd (HPS6.out.step HBL.out ha hr)
 have x7 := HPS7.out.p0
 have y7 := HPS7.out.t0
 clear ha hr x0 y0 HPS6 
 have h := eat_no HPS7.out.rdr tFalse HTF.out
 unfold tFalse at h
 have HE := Hd h
 clear h
 go_wp2_with (fail)
 refine HE.out.mono ?_
 rintro e w8 ⟨rfl, ha, hr⟩
 clear HE
 have HPS8 := Hd (HPS7.out.step HBL.out ha hr)
 have x8 := HPS8.out.p0
 have y8 := HPS8.out.t0
 clear ha hr x7 y7 HPS7 
 have h := eat_no HPS8.out.rdr tMinus HTM.out
 unfold tMinus at h
 have HE := Hd h
 clear h
 go_wp2_with (fail)
 refine HE.out.mono ?_
 rintro e w9 ⟨rfl, ha, hr⟩
 clear HE
 have HPS9 := Hd (HPS8.out.step HBL.out ha hr)
 have x9 := HPS9.out.p0
 have y9 := HPS9.out.t0
 clear ha hr x8 y8 HPS8 
 have h := eat_no HPS9.out.rdr tNot HTN.out
 unfold tNot at h
 have HE := Hd h
 clear h
 go_wp2_with (fail)
 refine HE.out.mono ?_
 rintro e w10 ⟨rfl, ha, hr⟩
 clear HE
 have HPS10 := Hd (HPS9.out.step HBL.out ha hr)
 have x10 := HPS10.out.p0
 have y10 := HPS10.out.t0
 clear ha hr x9 y9 HPS9 
 have h := eat_yes HPS10.out.rdr tLeft HTL.out
 unfold tLeft at h
 have HE := Hd h
 clear h
 go_wp2_with (fail)
 refine HE.out.mono ?_
 rintro e w11 ⟨rfl, ha, hr⟩
 clear HE
 have HPS11 := Hd (HPS10.out.step HBL.out ha hr)
 have x11 := HPS11.out.p0
 have y11 := HPS11.out.t0
 clear ha hr x10 y10 HPS10 
 have h := HXX.out _ _ HPS11.out.rdr
 rw [HQ.out] at h
 have HE := Hd h
 clear h
 go_wp2_with (fail)
 refine HE.out.mono ?_
 rintro e wz ⟨ha, rfl, hlf⟩
 go_wp2_with (fail)
 exact HPS11.out.bad HBL.out ha hlf
theorem prim_par_mbad (h : Rdr w B T E tv k dp ns) (hns : ns < 12) (h2 : (tkNext T k).1 ≠ 2) (htt : tkIs T k tTrue = false) (htf : tkIs T k tFalse = false) (h1 : (tkNext T k).1 ≠ 1) (htm : tkIs T k tMinus = false) (htn : tkIs T k tNot = false) (htl : tkIs T k tLeft = true) {pr : Nat → Rs Ex} (hx : ReadsEx B T E tv dp (ns + 1) 69 #[.pointer (some ⟨B, 0, none⟩), .int .i64 1] pr) {x : Ex} {k1 : Nat} (hq : pr (k + 1) = .ok x k1) {c a : Int} (hq2 : mustP T E tRight k1 = .bad c a) :
 Calls Tryz.prog 167 #[.pointer (some ⟨B, 0, none⟩)] w (Does w B T E tv dp ns ExIs (.bad c a)) := by
 have hmf := mf_run
 have HL := Hd h.len
 have HBL : Hid (B < w.heap.size) := h.lt
 have HNS := Hd hns
 have H0 := Hd h
 have HTT := Hd htt
 have HTF := Hd htf
 have HTM := Hd htm
 have HTN := Hd htn
 have HTL := Hd htl
 clear htt htf htm htn htl
 have HXX := Hd hx
 clear hx
 have HQ := Hd hq
 have HQ2 := Hd hq2
 clear hq hq2
 obtain ⟨W2, eW⟩ : ∃ W2, (w.alloc (.cells #[.pointer (some ⟨B, 0, none⟩)] 102)).alloc (.cells #[.int .i64 0, .int .i64 0, .int .i64 0, .int .i64 0, .string ⟨#[]⟩, .slice none 0 0, .slice none 0 0] 26) = W2 := ⟨_, rfl⟩
 obtain ⟨z2, hb2, m0, m1⟩ := boxes2 eW
 have hP2 : Blk W2 w.heap.size [.pointer (some ⟨B, 0, none⟩)] 102 := by rw [← eW]; exact (Blk.new _ _ _).below ((Below.refl _ _).alloc (Nat.le_refl _) _)
 have hE2 : Blk W2 (w.heap.size + 1) zeroC 26 := by rw [← eW]; exact Blk.new2 _ _ _ _ _
 obtain ⟨W3, eW3⟩ : ∃ W3, W2.drew = W3 := ⟨_, rfl⟩
 have hb3 : Below W2.heap.size W2 W3 := by rw [← eW3]; exact (Below.refl _ _).drew
 have g2 : W2.cell? ⟨w.heap.size, 0, none⟩ = some (.pointer (some ⟨B, 0, none⟩)) := hP2.cell 0
 have g3 : W3.cell? ⟨w.heap.size, 0, none⟩ = some (.pointer (some ⟨B, 0, none⟩)) := (hP2.below hb3).cell 0
 have HR3 := Hd ((h.below hb2).below hb3)
 have HI := Hd (into_calls4 HR3.out (Nat.le_of_lt hns))
 have HP3 := Hd (hP2.below hb3)
 have HE3 := Hd (hE2.below hb3)
 have HA3 := Hd (aside_below (B := B) (hb2.trans (hb3.mono hb2.size)))
 have HNB : Hid (w.heap.size ≠ B ∧ w.heap.size + 1 ≠ B) := by have := h.lt; unfold Hid; omega
 have HZ3 : Hid (W3.heap.size = w.heap.size + 2) := by rw [← eW3]; exact z2
 clear h hns hP2 hE2 hb2 hb3 m0 m1 z2
 go_enter_defers Tryz.func167, Tryz.ntmps167
 go_wp2_with (fail)
 refine wp_region_calm_tail 4 (by kernel_rfl) (by kernel_rfl) ?_
 rw [eW3]
 clear eW3 eW g2
 simp only [List.take_succ_cons, List.take_zero, List.drop_succ_cons, List.drop_zero]
 repeat go_big_quiet_step (fail)
 refine wpQuiet_nil ?_
 go_wp2_with (fail)
 refine HI.out.mono ?_
 rintro e w4 ⟨ha4, he4⟩
 rw [if_pos HNS.out] at he4
 obtain ⟨rfl, hr4⟩ := he4
 have HR4 := Hd hr4
 have HA4 := Hd (HA3.out.trans ha4)
 have HP4 := Hd (HP3.out.aside ha4 HNB.out.1)
 have HE4 := Hd (HE3.out.aside ha4 HNB.out.2)
 have HZ4 : Hid (w.heap.size + 1 < w4.heap.size) := HE4.out.lt
 have g4 : w4.cell? ⟨w.heap.size, 0, none⟩ = some (.pointer (some ⟨B, 0, none⟩)) := HP4.out.cell 0
 have HNX := Hd (next_calls hr4)
 generalize tkNext T k = t at *
 obtain ⟨t0, t1, t2⟩ := t
 have hk2 : (t0 == 2) = false := beq_false_of_ne (by simpa using h2)
 have hk1 : (t0 == 1) = false := beq_false_of_ne (by simpa using h1)
 clear h2 h1
 clear ha4 hr4 g3 HI
 go_wp2_with (fail)
 refine HNX.out.mono ?_
 rintro e w5 ⟨rfl, hb5⟩
 obtain ⟨W6, eW6⟩ : ∃ W6, w5.alloc (.cells #[.int .i64 t0, .int .i64 t1, .string t2] 183) = W6 := ⟨_, rfl⟩
 have hb6 : Below w5.heap.size w5 W6 := by rw [← eW6]; exact (Below.refl _ _).alloc (Nat.le_refl _) _
 have hb56 := hb5.trans (hb6.mono hb5.size)
 have HPS6 : Hid (PS w W6 w5.heap.size B T E tv dp ns (t0, t1, t2) k) := ⟨HR4.out.below hb56, HA4.out.trans (aside_below hb56), HP4.out.below hb56, HE4.out.below hb56, by rw [← eW6]; exact Blk.new _ _ _, by have := HZ4.out; have := hb5.size; omega⟩
 have x0 := HPS6.out.p0
 have y0 := HPS6.out.t0
 clear hb5 hb6 hb56 HR4 HA4 HP4 HE4 HZ4 g4 HNX HP3 HE3 HA3 HR3 HZ3
 have h := eat_no HPS6.out.rdr tTrue HTT.out
 unfold tTrue at h
 have HE := Hd h
 clear h
 go_wp2_with (fail)
 refine HE.out.mono ?_
 rintro e w7 ⟨rfl, ha, hr⟩
 clear HE
 have HPS7 := Hd (HPS6.out.step HBL.out ha hr)
 have x7 := HPS7.out.p0
 have y7 := HPS7.out.t0
 clear ha hr x0 y0 HPS6 
 have h := eat_no HPS7.out.rdr tFalse HTF.out
 unfold tFalse at h
 have HE := Hd h
 clear h
 go_wp2_with (fail)
 refine HE.out.mono ?_
 rintro e w8 ⟨rfl, ha, hr⟩
 clear HE
 have HPS8 := Hd (HPS7.out.step HBL.out ha hr)
 have x8 := HPS8.out.p0
 have y8 := HPS8.out.t0
 clear ha hr x7 y7 HPS7 
 have h := eat_no HPS8.out.rdr tMinus HTM.out
 unfold tMinus at h
 have HE := Hd h
 clear h
 go_wp2_with (fail)
 refine HE.out.mono ?_
 rintro e w9 ⟨rfl, ha, hr⟩
 clear HE
 have HPS9 := Hd (HPS8.out.step HBL.out ha hr)
 have x9 := HPS9.out.p0
 have y9 := HPS9.out.t0
 clear ha hr x8 y8 HPS8 
 have h := eat_no HPS9.out.rdr tNot HTN.out
 unfold tNot at h
 have HE := Hd h
 clear h
 go_wp2_with (fail)
 refine HE.out.mono ?_
 rintro e w10 ⟨rfl, ha, hr⟩
 clear HE
 have HPS10 := Hd (HPS9.out.step HBL.out ha hr)
 have x10 := HPS10.out.p0
 have y10 := HPS10.out.t0
 clear ha hr x9 y9 HPS9 
 have h := eat_yes HPS10.out.rdr tLeft HTL.out
 unfold tLeft at h
 have HE := Hd h
 clear h
 go_wp2_with (fail)
 refine HE.out.mono ?_
 rintro e w11 ⟨rfl, ha, hr⟩
 clear HE
 have HPS11 := Hd (HPS10.out.step HBL.out ha hr)
 have x11 := HPS11.out.p0
 have y11 := HPS11.out.t0
 clear ha hr x10 y10 HPS10 
 have h := HXX.out _ _ HPS11.out.rdr
 rw [HQ.out] at h
 have HE := Hd h
 clear h
 go_wp2_with (fail)
 refine HE.out.mono ?_
 rintro e we ⟨ha, ve, rfl, hr, hx⟩
 clear HE
 have HXE := Hd (hx.stays (since_mono _ (show w.heap.size + 2 ≤ w11.heap.size from by have h1 := HPS11.out.res.lt; omega)))
 obtain ⟨vl, va, rfl, hvl, hva⟩ := hx
 obtain ⟨pl, cl, rfl, _⟩ := hvl
 obtain ⟨pa, ca, rfl, _⟩ := hva
 obtain ⟨w12, eB⟩ : ∃ W, we.alloc (.cells #[.int .i64 x.kind, .int .i64 x.at_, .int .i64 x.num, .int .i64 x.ty, .string x.name, .slice pl x.lab.length cl, .slice pa x.kids.length ca] 26) = W := ⟨_, rfl⟩
 have hbb : Below we.heap.size we w12 := by rw [← eB]; exact (Below.refl _ _).alloc (Nat.le_refl _) _
 have HBX : Hid (Blk w12 we.heap.size (exC x (.slice pl x.lab.length cl) (.slice pa x.kids.length ca)) 26) := by rw [← eB]; exact Blk.new _ _ _
 have HXF := Hd (HXE.out.stays (keeps_hide hbb.size fun b hb hp => ⟨hp, hbb.block b hb⟩ : Keeps (since (w.heap.size + 2) we) (since (w.heap.size + 2) w12)))
 have HNE : Hid (we.heap.size ≠ B ∧ w.heap.size + 1 < we.heap.size) := ⟨by have h1 := hr.lt; omega, by have h1 := HPS11.out.res.lt; have h2 := ha.size; omega⟩
 replace hr := hr.below hbb
 replace ha := ha.trans (aside_below (B := B) hbb)
 clear HXE hbb
 have HPS12 := Hd (HPS11.out.step HBL.out ha hr)
 have x12 := HPS12.out.p0
 have y12 := HPS12.out.t0
 clear ha hr x11 y11 HPS11 
 have h := must_calls HPS12.out.rdr tRight
 rw [HQ2.out] at h
 unfold tRight at h
 have HE := Hd h
 clear h
 go_wp2_with (fail)
 refine HE.out.mono ?_
 rintro e wz ⟨ha, rfl, hlf⟩
 go_wp2_with (fail)
 exact HPS12.out.bad HBL.out ha hlf
theorem prim_par_ok (h : Rdr w B T E tv k dp ns) (hns : ns < 12) (h2 : (tkNext T k).1 ≠ 2) (htt : tkIs T k tTrue = false) (htf : tkIs T k tFalse = false) (h1 : (tkNext T k).1 ≠ 1) (htm : tkIs T k tMinus = false) (htn : tkIs T k tNot = false) (htl : tkIs T k tLeft = true) {pr : Nat → Rs Ex} (hx : ReadsEx B T E tv dp (ns + 1) 69 #[.pointer (some ⟨B, 0, none⟩), .int .i64 1] pr) {x : Ex} {k1 : Nat} (hq : pr (k + 1) = .ok x k1) {u : Unit} {k2 : Nat} (hq2 : mustP T E tRight k1 = .ok u k2) :
 Calls Tryz.prog 167 #[.pointer (some ⟨B, 0, none⟩)] w (Does w B T E tv dp ns ExIs (.ok x k2)) := by
 have hmf := mf_run
 have HL := Hd h.len
 have HBL : Hid (B < w.heap.size) := h.lt
 have HNS := Hd hns
 have H0 := Hd h
 have HTT := Hd htt
 have HTF := Hd htf
 have HTM := Hd htm
 have HTN := Hd htn
 have HTL := Hd htl
 clear htt htf htm htn htl
 have HXX := Hd hx
 clear hx
 have HQ := Hd hq
 have HQ2 := Hd hq2
 clear hq hq2
 obtain ⟨W2, eW⟩ : ∃ W2, (w.alloc (.cells #[.pointer (some ⟨B, 0, none⟩)] 102)).alloc (.cells #[.int .i64 0, .int .i64 0, .int .i64 0, .int .i64 0, .string ⟨#[]⟩, .slice none 0 0, .slice none 0 0] 26) = W2 := ⟨_, rfl⟩
 obtain ⟨z2, hb2, m0, m1⟩ := boxes2 eW
 have hP2 : Blk W2 w.heap.size [.pointer (some ⟨B, 0, none⟩)] 102 := by rw [← eW]; exact (Blk.new _ _ _).below ((Below.refl _ _).alloc (Nat.le_refl _) _)
 have hE2 : Blk W2 (w.heap.size + 1) zeroC 26 := by rw [← eW]; exact Blk.new2 _ _ _ _ _
 obtain ⟨W3, eW3⟩ : ∃ W3, W2.drew = W3 := ⟨_, rfl⟩
 have hb3 : Below W2.heap.size W2 W3 := by rw [← eW3]; exact (Below.refl _ _).drew
 have g2 : W2.cell? ⟨w.heap.size, 0, none⟩ = some (.pointer (some ⟨B, 0, none⟩)) := hP2.cell 0
 have g3 : W3.cell? ⟨w.heap.size, 0, none⟩ = some (.pointer (some ⟨B, 0, none⟩)) := (hP2.below hb3).cell 0
 have HR3 := Hd ((h.below hb2).below hb3)
 have HI := Hd (into_calls4 HR3.out (Nat.le_of_lt hns))
 have HP3 := Hd (hP2.below hb3)
 have HE3 := Hd (hE2.below hb3)
 have HA3 := Hd (aside_below (B := B) (hb2.trans (hb3.mono hb2.size)))
 have HNB : Hid (w.heap.size ≠ B ∧ w.heap.size + 1 ≠ B) := by have := h.lt; unfold Hid; omega
 have HZ3 : Hid (W3.heap.size = w.heap.size + 2) := by rw [← eW3]; exact z2
 clear h hns hP2 hE2 hb2 hb3 m0 m1 z2
 go_enter_defers Tryz.func167, Tryz.ntmps167
 go_wp2_with (fail)
 refine wp_region_calm_tail 4 (by kernel_rfl) (by kernel_rfl) ?_
 rw [eW3]
 clear eW3 eW g2
 simp only [List.take_succ_cons, List.take_zero, List.drop_succ_cons, List.drop_zero]
 repeat go_big_quiet_step (fail)
 refine wpQuiet_nil ?_
 go_wp2_with (fail)
 refine HI.out.mono ?_
 rintro e w4 ⟨ha4, he4⟩
 rw [if_pos HNS.out] at he4
 obtain ⟨rfl, hr4⟩ := he4
 have HR4 := Hd hr4
 have HA4 := Hd (HA3.out.trans ha4)
 have HP4 := Hd (HP3.out.aside ha4 HNB.out.1)
 have HE4 := Hd (HE3.out.aside ha4 HNB.out.2)
 have HZ4 : Hid (w.heap.size + 1 < w4.heap.size) := HE4.out.lt
 have g4 : w4.cell? ⟨w.heap.size, 0, none⟩ = some (.pointer (some ⟨B, 0, none⟩)) := HP4.out.cell 0
 have HNX := Hd (next_calls hr4)
 generalize tkNext T k = t at *
 obtain ⟨t0, t1, t2⟩ := t
 have hk2 : (t0 == 2) = false := beq_false_of_ne (by simpa using h2)
 have hk1 : (t0 == 1) = false := beq_false_of_ne (by simpa using h1)
 clear h2 h1
 clear ha4 hr4 g3 HI
 go_wp2_with (fail)
 refine HNX.out.mono ?_
 rintro e w5 ⟨rfl, hb5⟩
 obtain ⟨W6, eW6⟩ : ∃ W6, w5.alloc (.cells #[.int .i64 t0, .int .i64 t1, .string t2] 183) = W6 := ⟨_, rfl⟩
 have hb6 : Below w5.heap.size w5 W6 := by rw [← eW6]; exact (Below.refl _ _).alloc (Nat.le_refl _) _
 have hb56 := hb5.trans (hb6.mono hb5.size)
 have HPS6 : Hid (PS w W6 w5.heap.size B T E tv dp ns (t0, t1, t2) k) := ⟨HR4.out.below hb56, HA4.out.trans (aside_below hb56), HP4.out.below hb56, HE4.out.below hb56, by rw [← eW6]; exact Blk.new _ _ _, by have := HZ4.out; have := hb5.size; omega⟩
 have x0 := HPS6.out.p0
 have y0 := HPS6.out.t0
 clear hb5 hb6 hb56 HR4 HA4 HP4 HE4 HZ4 g4 HNX HP3 HE3 HA3 HR3 HZ3
 have h := eat_no HPS6.out.rdr tTrue HTT.out
 unfold tTrue at h
 have HE := Hd h
 clear h
 go_wp2_with (fail)
 refine HE.out.mono ?_
 rintro e w7 ⟨rfl, ha, hr⟩
 clear HE
 have HPS7 := Hd (HPS6.out.step HBL.out ha hr)
 have x7 := HPS7.out.p0
 have y7 := HPS7.out.t0
 clear ha hr x0 y0 HPS6 
 have h := eat_no HPS7.out.rdr tFalse HTF.out
 unfold tFalse at h
 have HE := Hd h
 clear h
 go_wp2_with (fail)
 refine HE.out.mono ?_
 rintro e w8 ⟨rfl, ha, hr⟩
 clear HE
 have HPS8 := Hd (HPS7.out.step HBL.out ha hr)
 have x8 := HPS8.out.p0
 have y8 := HPS8.out.t0
 clear ha hr x7 y7 HPS7 
 have h := eat_no HPS8.out.rdr tMinus HTM.out
 unfold tMinus at h
 have HE := Hd h
 clear h
 go_wp2_with (fail)
 refine HE.out.mono ?_
 rintro e w9 ⟨rfl, ha, hr⟩
 clear HE
 have HPS9 := Hd (HPS8.out.step HBL.out ha hr)
 have x9 := HPS9.out.p0
 have y9 := HPS9.out.t0
 clear ha hr x8 y8 HPS8 
 have h := eat_no HPS9.out.rdr tNot HTN.out
 unfold tNot at h
 have HE := Hd h
 clear h
 go_wp2_with (fail)
 refine HE.out.mono ?_
 rintro e w10 ⟨rfl, ha, hr⟩
 clear HE
 have HPS10 := Hd (HPS9.out.step HBL.out ha hr)
 have x10 := HPS10.out.p0
 have y10 := HPS10.out.t0
 clear ha hr x9 y9 HPS9 
 have h := eat_yes HPS10.out.rdr tLeft HTL.out
 unfold tLeft at h
 have HE := Hd h
 clear h
 go_wp2_with (fail)
 refine HE.out.mono ?_
 rintro e w11 ⟨rfl, ha, hr⟩
 clear HE
 have HPS11 := Hd (HPS10.out.step HBL.out ha hr)
 have x11 := HPS11.out.p0
 have y11 := HPS11.out.t0
 clear ha hr x10 y10 HPS10 
 have h := HXX.out _ _ HPS11.out.rdr
 rw [HQ.out] at h
 have HE := Hd h
 clear h
 go_wp2_with (fail)
 refine HE.out.mono ?_
 rintro e we ⟨ha, ve, rfl, hr, hx⟩
 clear HE
 have HXE := Hd (hx.stays (since_mono _ (show w.heap.size + 2 ≤ w11.heap.size from by have h1 := HPS11.out.res.lt; omega)))
 obtain ⟨vl, va, rfl, hvl, hva⟩ := hx
 obtain ⟨pl, cl, rfl, _⟩ := hvl
 obtain ⟨pa, ca, rfl, _⟩ := hva
 obtain ⟨w12, eB⟩ : ∃ W, we.alloc (.cells #[.int .i64 x.kind, .int .i64 x.at_, .int .i64 x.num, .int .i64 x.ty, .string x.name, .slice pl x.lab.length cl, .slice pa x.kids.length ca] 26) = W := ⟨_, rfl⟩
 have hbb : Below we.heap.size we w12 := by rw [← eB]; exact (Below.refl _ _).alloc (Nat.le_refl _) _
 have HBX : Hid (Blk w12 we.heap.size (exC x (.slice pl x.lab.length cl) (.slice pa x.kids.length ca)) 26) := by rw [← eB]; exact Blk.new _ _ _
 have HXF := Hd (HXE.out.stays (keeps_hide hbb.size fun b hb hp => ⟨hp, hbb.block b hb⟩ : Keeps (since (w.heap.size + 2) we) (since (w.heap.size + 2) w12)))
 have HNE : Hid (we.heap.size ≠ B ∧ w.heap.size + 1 < we.heap.size) := ⟨by have h1 := hr.lt; omega, by have h1 := HPS11.out.res.lt; have h2 := ha.size; omega⟩
 replace hr := hr.below hbb
 replace ha := ha.trans (aside_below (B := B) hbb)
 clear HXE hbb
 have HPS12 := Hd (HPS11.out.step HBL.out ha hr)
 have x12 := HPS12.out.p0
 have y12 := HPS12.out.t0
 clear ha hr x11 y11 HPS11 
 have h := must_calls HPS12.out.rdr tRight
 rw [HQ2.out] at h
 unfold tRight at h
 have HE := Hd h
 clear h
 go_wp2_with (fail)
 refine HE.out.mono ?_
 rintro e w13 ⟨ha, v13, rfl, hr, rfl⟩
 clear HE
 have HXF13 := Hd (HXF.out.stays (since_aside ha (by have h1 := HBL.out; omega)))
 have HBX13 := Hd (HBX.out.aside ha HNE.out.1)
 have HPS13 := Hd (HPS12.out.step HBL.out ha hr)
 have x13 := HPS13.out.p0
 have y13 := HPS13.out.t0
 clear ha hr x12 y12 HPS12 eB
 obtain ⟨b0, b1, b2, b3, b4, b5, b6⟩ := HBX13.out.cells7
 obtain ⟨e0, e1, e2, e3, e4, e5, e6⟩ := HPS13.out.res.cells7
 obtain ⟨f0, f1, f2, f3, f4, f5, f6⟩ := HPS13.out.res.fz7
 have ty1 := HPS13.out.t1
 have ty2 := HPS13.out.t2
 go_wp2_with (fail)
 exact HPS13.out.ret HNS.out H0.out rfl HXF13.out
theorem prim_rel0 (h : Rdr w B T E tv k dp ns) (hns : ns < 12) (h2 : (tkNext T k).1 ≠ 2) (htt : tkIs T k tTrue = false) (htf : tkIs T k tFalse = false) (h1 : (tkNext T k).1 ≠ 1) (htm : tkIs T k tMinus = false) (htn : tkIs T k tNot = false) (htl : tkIs T k tLeft = false) (htr : tkIs T k tRelease = true) {c a : Int} (q0 : mustP T E tLeft (k + 1) = .bad c a) :
 Calls Tryz.prog 167 #[.pointer (some ⟨B, 0, none⟩)] w (Does w B T E tv dp ns ExIs (.bad c a)) := by
 have hmf := mf_run
 have HL := Hd h.len
 have HBL : Hid (B < w.heap.size) := h.lt
 have HNS := Hd hns
 have H0 := Hd h
 have HTT := Hd htt
 have HTF := Hd htf
 have HTM := Hd htm
 have HTN := Hd htn
 have HTL := Hd htl
 have HTR := Hd htr
 clear htt htf htm htn htl htr
 have Q0 := Hd q0
 clear q0
 obtain ⟨W2, eW⟩ : ∃ W2, (w.alloc (.cells #[.pointer (some ⟨B, 0, none⟩)] 102)).alloc (.cells #[.int .i64 0, .int .i64 0, .int .i64 0, .int .i64 0, .string ⟨#[]⟩, .slice none 0 0, .slice none 0 0] 26) = W2 := ⟨_, rfl⟩
 obtain ⟨z2, hb2, m0, m1⟩ := boxes2 eW
 have hP2 : Blk W2 w.heap.size [.pointer (some ⟨B, 0, none⟩)] 102 := by rw [← eW]; exact (Blk.new _ _ _).below ((Below.refl _ _).alloc (Nat.le_refl _) _)
 have hE2 : Blk W2 (w.heap.size + 1) zeroC 26 := by rw [← eW]; exact Blk.new2 _ _ _ _ _
 obtain ⟨W3, eW3⟩ : ∃ W3, W2.drew = W3 := ⟨_, rfl⟩
 have hb3 : Below W2.heap.size W2 W3 := by rw [← eW3]; exact (Below.refl _ _).drew
 have g2 : W2.cell? ⟨w.heap.size, 0, none⟩ = some (.pointer (some ⟨B, 0, none⟩)) := hP2.cell 0
 have g3 : W3.cell? ⟨w.heap.size, 0, none⟩ = some (.pointer (some ⟨B, 0, none⟩)) := (hP2.below hb3).cell 0
 have HR3 := Hd ((h.below hb2).below hb3)
 have HI := Hd (into_calls4 HR3.out (Nat.le_of_lt hns))
 have HP3 := Hd (hP2.below hb3)
 have HE3 := Hd (hE2.below hb3)
 have HA3 := Hd (aside_below (B := B) (hb2.trans (hb3.mono hb2.size)))
 have HNB : Hid (w.heap.size ≠ B ∧ w.heap.size + 1 ≠ B) := by have := h.lt; unfold Hid; omega
 have HZ3 : Hid (W3.heap.size = w.heap.size + 2) := by rw [← eW3]; exact z2
 clear h hns hP2 hE2 hb2 hb3 m0 m1 z2
 go_enter_defers Tryz.func167, Tryz.ntmps167
 go_wp2_with (fail)
 refine wp_region_calm_tail 4 (by kernel_rfl) (by kernel_rfl) ?_
 rw [eW3]
 clear eW3 eW g2
 simp only [List.take_succ_cons, List.take_zero, List.drop_succ_cons, List.drop_zero]
 repeat go_big_quiet_step (fail)
 refine wpQuiet_nil ?_
 go_wp2_with (fail)
 refine HI.out.mono ?_
 rintro e w4 ⟨ha4, he4⟩
 rw [if_pos HNS.out] at he4
 obtain ⟨rfl, hr4⟩ := he4
 have HR4 := Hd hr4
 have HA4 := Hd (HA3.out.trans ha4)
 have HP4 := Hd (HP3.out.aside ha4 HNB.out.1)
 have HE4 := Hd (HE3.out.aside ha4 HNB.out.2)
 have HZ4 : Hid (w.heap.size + 1 < w4.heap.size) := HE4.out.lt
 have g4 : w4.cell? ⟨w.heap.size, 0, none⟩ = some (.pointer (some ⟨B, 0, none⟩)) := HP4.out.cell 0
 have HNX := Hd (next_calls hr4)
 generalize tkNext T k = t at *
 obtain ⟨t0, t1, t2⟩ := t
 have hk2 : (t0 == 2) = false := beq_false_of_ne (by simpa using h2)
 have hk1 : (t0 == 1) = false := beq_false_of_ne (by simpa using h1)
 clear h2 h1
 clear ha4 hr4 g3 HI
 go_wp2_with (fail)
 refine HNX.out.mono ?_
 rintro e w5 ⟨rfl, hb5⟩
 obtain ⟨W6, eW6⟩ : ∃ W6, w5.alloc (.cells #[.int .i64 t0, .int .i64 t1, .string t2] 183) = W6 := ⟨_, rfl⟩
 have hb6 : Below w5.heap.size w5 W6 := by rw [← eW6]; exact (Below.refl _ _).alloc (Nat.le_refl _) _
 have hb56 := hb5.trans (hb6.mono hb5.size)
 have HPS6 : Hid (PS w W6 w5.heap.size B T E tv dp ns (t0, t1, t2) k) := ⟨HR4.out.below hb56, HA4.out.trans (aside_below hb56), HP4.out.below hb56, HE4.out.below hb56, by rw [← eW6]; exact Blk.new _ _ _, by have := HZ4.out; have := hb5.size; omega⟩
 have x0 := HPS6.out.p0
 have y0 := HPS6.out.t0
 clear hb5 hb6 hb56 HR4 HA4 HP4 HE4 HZ4 g4 HNX HP3 HE3 HA3 HR3 HZ3
 have h := eat_no HPS6.out.rdr tTrue HTT.out
 unfold tTrue at h
 have HE := Hd h
 clear h
 go_wp2_with (fail)
 refine HE.out.mono ?_
 rintro e w7 ⟨rfl, ha, hr⟩
 clear HE
 have HPS7 := Hd (HPS6.out.step HBL.out ha hr)
 have x7 := HPS7.out.p0
 have y7 := HPS7.out.t0
 clear ha hr x0 y0 HPS6 
 have h := eat_no HPS7.out.rdr tFalse HTF.out
 unfold tFalse at h
 have HE := Hd h
 clear h
 go_wp2_with (fail)
 refine HE.out.mono ?_
 rintro e w8 ⟨rfl, ha, hr⟩
 clear HE
 have HPS8 := Hd (HPS7.out.step HBL.out ha hr)
 have x8 := HPS8.out.p0
 have y8 := HPS8.out.t0
 clear ha hr x7 y7 HPS7 
 have h := eat_no HPS8.out.rdr tMinus HTM.out
 unfold tMinus at h
 have HE := Hd h
 clear h
 go_wp2_with (fail)
 refine HE.out.mono ?_
 rintro e w9 ⟨rfl, ha, hr⟩
 clear HE
 have HPS9 := Hd (HPS8.out.step HBL.out ha hr)
 have x9 := HPS9.out.p0
 have y9 := HPS9.out.t0
 clear ha hr x8 y8 HPS8 
 have h := eat_no HPS9.out.rdr tNot HTN.out
 unfold tNot at h
 have HE := Hd h
 clear h
 go_wp2_with (fail)
 refine HE.out.mono ?_
 rintro e w10 ⟨rfl, ha, hr⟩
 clear HE
 have HPS10 := Hd (HPS9.out.step HBL.out ha hr)
 have x10 := HPS10.out.p0
 have y10 := HPS10.out.t0
 clear ha hr x9 y9 HPS9 
 have h := eat_no HPS10.out.rdr tLeft HTL.out
 unfold tLeft at h
 have HE := Hd h
 clear h
 go_wp2_with (fail)
 refine HE.out.mono ?_
 rintro e w11 ⟨rfl, ha, hr⟩
 clear HE
 have HPS11 := Hd (HPS10.out.step HBL.out ha hr)
 have x11 := HPS11.out.p0
 have y11 := HPS11.out.t0
 clear ha hr x10 y10 HPS10 
 have h := eat_yes HPS11.out.rdr tRelease HTR.out
 unfold tRelease at h
 have HE := Hd h
 clear h
 go_wp2_with (fail)
 refine HE.out.mono ?_
 rintro e w12 ⟨rfl, ha, hr⟩
 clear HE
 have HPS12 := Hd (HPS11.out.step HBL.out ha hr)
 have x12 := HPS12.out.p0
 have y12 := HPS12.out.t0
 clear ha hr x11 y11 HPS11 
 have h := must_calls HPS12.out.rdr tLeft
 rw [Q0.out] at h
 unfold tLeft at h
 have HE := Hd h
 clear h
 go_wp2_with (fail)
 refine HE.out.mono ?_
 rintro e wz ⟨ha, rfl, hlf⟩
 go_wp2_with (fail)
 exact HPS12.out.bad HBL.out ha hlf
theorem prim_rel1 (h : Rdr w B T E tv k dp ns) (hns : ns < 12) (h2 : (tkNext T k).1 ≠ 2) (htt : tkIs T k tTrue = false) (htf : tkIs T k tFalse = false) (h1 : (tkNext T k).1 ≠ 1) (htm : tkIs T k tMinus = false) (htn : tkIs T k tNot = false) (htl : tkIs T k tLeft = false) (htr : tkIs T k tRelease = true) {pr : Nat → Rs Ex} (hx : ReadsEx B T E tv dp (ns + 1) 69 #[.pointer (some ⟨B, 0, none⟩), .int .i64 1] pr) {u1 : Unit} {k1 : Nat} (q0 : mustP T E tLeft (k + 1) = .ok u1 k1) {c a : Int} (q1 : pr k1 = .bad c a) :
 Calls Tryz.prog 167 #[.pointer (some ⟨B, 0, none⟩)] w (Does w B T E tv dp ns ExIs (.bad c a)) := by
 have hmf := mf_run
 have HL := Hd h.len
 have HBL : Hid (B < w.heap.size) := h.lt
 have HNS := Hd hns
 have H0 := Hd h
 have HTT := Hd htt
 have HTF := Hd htf
 have HTM := Hd htm
 have HTN := Hd htn
 have HTL := Hd htl
 have HTR := Hd htr
 clear htt htf htm htn htl htr
 have HXX := Hd hx
 clear hx
 have Q0 := Hd q0
 clear q0
 have Q1 := Hd q1
 clear q1
 obtain ⟨W2, eW⟩ : ∃ W2, (w.alloc (.cells #[.pointer (some ⟨B, 0, none⟩)] 102)).alloc (.cells #[.int .i64 0, .int .i64 0, .int .i64 0, .int .i64 0, .string ⟨#[]⟩, .slice none 0 0, .slice none 0 0] 26) = W2 := ⟨_, rfl⟩
 obtain ⟨z2, hb2, m0, m1⟩ := boxes2 eW
 have hP2 : Blk W2 w.heap.size [.pointer (some ⟨B, 0, none⟩)] 102 := by rw [← eW]; exact (Blk.new _ _ _).below ((Below.refl _ _).alloc (Nat.le_refl _) _)
 have hE2 : Blk W2 (w.heap.size + 1) zeroC 26 := by rw [← eW]; exact Blk.new2 _ _ _ _ _
 obtain ⟨W3, eW3⟩ : ∃ W3, W2.drew = W3 := ⟨_, rfl⟩
 have hb3 : Below W2.heap.size W2 W3 := by rw [← eW3]; exact (Below.refl _ _).drew
 have g2 : W2.cell? ⟨w.heap.size, 0, none⟩ = some (.pointer (some ⟨B, 0, none⟩)) := hP2.cell 0
 have g3 : W3.cell? ⟨w.heap.size, 0, none⟩ = some (.pointer (some ⟨B, 0, none⟩)) := (hP2.below hb3).cell 0
 have HR3 := Hd ((h.below hb2).below hb3)
 have HI := Hd (into_calls4 HR3.out (Nat.le_of_lt hns))
 have HP3 := Hd (hP2.below hb3)
 have HE3 := Hd (hE2.below hb3)
 have HA3 := Hd (aside_below (B := B) (hb2.trans (hb3.mono hb2.size)))
 have HNB : Hid (w.heap.size ≠ B ∧ w.heap.size + 1 ≠ B) := by have := h.lt; unfold Hid; omega
 have HZ3 : Hid (W3.heap.size = w.heap.size + 2) := by rw [← eW3]; exact z2
 clear h hns hP2 hE2 hb2 hb3 m0 m1 z2
 go_enter_defers Tryz.func167, Tryz.ntmps167
 go_wp2_with (fail)
 refine wp_region_calm_tail 4 (by kernel_rfl) (by kernel_rfl) ?_
 rw [eW3]
 clear eW3 eW g2
 simp only [List.take_succ_cons, List.take_zero, List.drop_succ_cons, List.drop_zero]
 repeat go_big_quiet_step (fail)
 refine wpQuiet_nil ?_
 go_wp2_with (fail)
 refine HI.out.mono ?_
 rintro e w4 ⟨ha4, he4⟩
 rw [if_pos HNS.out] at he4
 obtain ⟨rfl, hr4⟩ := he4
 have HR4 := Hd hr4
 have HA4 := Hd (HA3.out.trans ha4)
 have HP4 := Hd (HP3.out.aside ha4 HNB.out.1)
 have HE4 := Hd (HE3.out.aside ha4 HNB.out.2)
 have HZ4 : Hid (w.heap.size + 1 < w4.heap.size) := HE4.out.lt
 have g4 : w4.cell? ⟨w.heap.size, 0, none⟩ = some (.pointer (some ⟨B, 0, none⟩)) := HP4.out.cell 0
 have HNX := Hd (next_calls hr4)
 generalize tkNext T k = t at *
 obtain ⟨t0, t1, t2⟩ := t
 have hk2 : (t0 == 2) = false := beq_false_of_ne (by simpa using h2)
 have hk1 : (t0 == 1) = false := beq_false_of_ne (by simpa using h1)
 clear h2 h1
 clear ha4 hr4 g3 HI
 go_wp2_with (fail)
 refine HNX.out.mono ?_
 rintro e w5 ⟨rfl, hb5⟩
 obtain ⟨W6, eW6⟩ : ∃ W6, w5.alloc (.cells #[.int .i64 t0, .int .i64 t1, .string t2] 183) = W6 := ⟨_, rfl⟩
 have hb6 : Below w5.heap.size w5 W6 := by rw [← eW6]; exact (Below.refl _ _).alloc (Nat.le_refl _) _
 have hb56 := hb5.trans (hb6.mono hb5.size)
 have HPS6 : Hid (PS w W6 w5.heap.size B T E tv dp ns (t0, t1, t2) k) := ⟨HR4.out.below hb56, HA4.out.trans (aside_below hb56), HP4.out.below hb56, HE4.out.below hb56, by rw [← eW6]; exact Blk.new _ _ _, by have := HZ4.out; have := hb5.size; omega⟩
 have x0 := HPS6.out.p0
 have y0 := HPS6.out.t0
 clear hb5 hb6 hb56 HR4 HA4 HP4 HE4 HZ4 g4 HNX HP3 HE3 HA3 HR3 HZ3
 have h := eat_no HPS6.out.rdr tTrue HTT.out
 unfold tTrue at h
 have HE := Hd h
 clear h
 go_wp2_with (fail)
 refine HE.out.mono ?_
 rintro e w7 ⟨rfl, ha, hr⟩
 clear HE
 have HPS7 := Hd (HPS6.out.step HBL.out ha hr)
 have x7 := HPS7.out.p0
 have y7 := HPS7.out.t0
 clear ha hr x0 y0 HPS6 
 have h := eat_no HPS7.out.rdr tFalse HTF.out
 unfold tFalse at h
 have HE := Hd h
 clear h
 go_wp2_with (fail)
 refine HE.out.mono ?_
 rintro e w8 ⟨rfl, ha, hr⟩
 clear HE
 have HPS8 := Hd (HPS7.out.step HBL.out ha hr)
 have x8 := HPS8.out.p0
 have y8 := HPS8.out.t0
 clear ha hr x7 y7 HPS7 
 have h := eat_no HPS8.out.rdr tMinus HTM.out
 unfold tMinus at h
 have HE := Hd h
 clear h
 go_wp2_with (fail)
 refine HE.out.mono ?_
 rintro e w9 ⟨rfl, ha, hr⟩
 clear HE
 have HPS9 := Hd (HPS8.out.step HBL.out ha hr)
 have x9 := HPS9.out.p0
 have y9 := HPS9.out.t0
 clear ha hr x8 y8 HPS8 
 have h := eat_no HPS9.out.rdr tNot HTN.out
 unfold tNot at h
 have HE := Hd h
 clear h
 go_wp2_with (fail)
 refine HE.out.mono ?_
 rintro e w10 ⟨rfl, ha, hr⟩
 clear HE
 have HPS10 := Hd (HPS9.out.step HBL.out ha hr)
 have x10 := HPS10.out.p0
 have y10 := HPS10.out.t0
 clear ha hr x9 y9 HPS9 
 have h := eat_no HPS10.out.rdr tLeft HTL.out
 unfold tLeft at h
 have HE := Hd h
 clear h
 go_wp2_with (fail)
 refine HE.out.mono ?_
 rintro e w11 ⟨rfl, ha, hr⟩
 clear HE
 have HPS11 := Hd (HPS10.out.step HBL.out ha hr)
 have x11 := HPS11.out.p0
 have y11 := HPS11.out.t0
 clear ha hr x10 y10 HPS10 
 have h := eat_yes HPS11.out.rdr tRelease HTR.out
 unfold tRelease at h
 have HE := Hd h
 clear h
 go_wp2_with (fail)
 refine HE.out.mono ?_
 rintro e w12 ⟨rfl, ha, hr⟩
 clear HE
 have HPS12 := Hd (HPS11.out.step HBL.out ha hr)
 have x12 := HPS12.out.p0
 have y12 := HPS12.out.t0
 clear ha hr x11 y11 HPS11 
 have h := must_calls HPS12.out.rdr tLeft
 rw [Q0.out] at h
 unfold tLeft at h
 have HE := Hd h
 clear h
 go_wp2_with (fail)
 refine HE.out.mono ?_
 rintro e w13 ⟨ha, v13, rfl, hr, rfl⟩
 clear HE
 have HPS13 := Hd (HPS12.out.step HBL.out ha hr)
 have x13 := HPS13.out.p0
 have y13 := HPS13.out.t0
 clear ha hr x12 y12 HPS12 
 have h := HXX.out _ _ HPS13.out.rdr
 rw [Q1.out] at h
 have HE := Hd h
 clear h
 go_wp2_with (fail)
 refine HE.out.mono ?_
 rintro e wz ⟨ha, rfl, hlf⟩
 go_wp2_with (fail)
 exact HPS13.out.bad HBL.out ha hlf
theorem prim_rel2 (h : Rdr w B T E tv k dp ns) (hns : ns < 12) (h2 : (tkNext T k).1 ≠ 2) (htt : tkIs T k tTrue = false) (htf : tkIs T k tFalse = false) (h1 : (tkNext T k).1 ≠ 1) (htm : tkIs T k tMinus = false) (htn : tkIs T k tNot = false) (htl : tkIs T k tLeft = false) (htr : tkIs T k tRelease = true) {pr : Nat → Rs Ex} (hx : ReadsEx B T E tv dp (ns + 1) 69 #[.pointer (some ⟨B, 0, none⟩), .int .i64 1] pr) {u1 : Unit} {k1 : Nat} (q0 : mustP T E tLeft (k + 1) = .ok u1 k1) {x : Ex} {k2 : Nat} (q1 : pr k1 = .ok x k2) {c a : Int} (q2 : mustP T E tTo k2 = .bad c a) :
 Calls Tryz.prog 167 #[.pointer (some ⟨B, 0, none⟩)] w (Does w B T E tv dp ns ExIs (.bad c a)) := by
 have hmf := mf_run
 have HL := Hd h.len
 have HBL : Hid (B < w.heap.size) := h.lt
 have HNS := Hd hns
 have H0 := Hd h
 have HTT := Hd htt
 have HTF := Hd htf
 have HTM := Hd htm
 have HTN := Hd htn
 have HTL := Hd htl
 have HTR := Hd htr
 clear htt htf htm htn htl htr
 have HXX := Hd hx
 clear hx
 have Q0 := Hd q0
 clear q0
 have Q1 := Hd q1
 clear q1
 have Q2 := Hd q2
 clear q2
 obtain ⟨W2, eW⟩ : ∃ W2, (w.alloc (.cells #[.pointer (some ⟨B, 0, none⟩)] 102)).alloc (.cells #[.int .i64 0, .int .i64 0, .int .i64 0, .int .i64 0, .string ⟨#[]⟩, .slice none 0 0, .slice none 0 0] 26) = W2 := ⟨_, rfl⟩
 obtain ⟨z2, hb2, m0, m1⟩ := boxes2 eW
 have hP2 : Blk W2 w.heap.size [.pointer (some ⟨B, 0, none⟩)] 102 := by rw [← eW]; exact (Blk.new _ _ _).below ((Below.refl _ _).alloc (Nat.le_refl _) _)
 have hE2 : Blk W2 (w.heap.size + 1) zeroC 26 := by rw [← eW]; exact Blk.new2 _ _ _ _ _
 obtain ⟨W3, eW3⟩ : ∃ W3, W2.drew = W3 := ⟨_, rfl⟩
 have hb3 : Below W2.heap.size W2 W3 := by rw [← eW3]; exact (Below.refl _ _).drew
 have g2 : W2.cell? ⟨w.heap.size, 0, none⟩ = some (.pointer (some ⟨B, 0, none⟩)) := hP2.cell 0
 have g3 : W3.cell? ⟨w.heap.size, 0, none⟩ = some (.pointer (some ⟨B, 0, none⟩)) := (hP2.below hb3).cell 0
 have HR3 := Hd ((h.below hb2).below hb3)
 have HI := Hd (into_calls4 HR3.out (Nat.le_of_lt hns))
 have HP3 := Hd (hP2.below hb3)
 have HE3 := Hd (hE2.below hb3)
 have HA3 := Hd (aside_below (B := B) (hb2.trans (hb3.mono hb2.size)))
 have HNB : Hid (w.heap.size ≠ B ∧ w.heap.size + 1 ≠ B) := by have := h.lt; unfold Hid; omega
 have HZ3 : Hid (W3.heap.size = w.heap.size + 2) := by rw [← eW3]; exact z2
 clear h hns hP2 hE2 hb2 hb3 m0 m1 z2
 go_enter_defers Tryz.func167, Tryz.ntmps167
 go_wp2_with (fail)
 refine wp_region_calm_tail 4 (by kernel_rfl) (by kernel_rfl) ?_
 rw [eW3]
 clear eW3 eW g2
 simp only [List.take_succ_cons, List.take_zero, List.drop_succ_cons, List.drop_zero]
 repeat go_big_quiet_step (fail)
 refine wpQuiet_nil ?_
 go_wp2_with (fail)
 refine HI.out.mono ?_
 rintro e w4 ⟨ha4, he4⟩
 rw [if_pos HNS.out] at he4
 obtain ⟨rfl, hr4⟩ := he4
 have HR4 := Hd hr4
 have HA4 := Hd (HA3.out.trans ha4)
 have HP4 := Hd (HP3.out.aside ha4 HNB.out.1)
 have HE4 := Hd (HE3.out.aside ha4 HNB.out.2)
 have HZ4 : Hid (w.heap.size + 1 < w4.heap.size) := HE4.out.lt
 have g4 : w4.cell? ⟨w.heap.size, 0, none⟩ = some (.pointer (some ⟨B, 0, none⟩)) := HP4.out.cell 0
 have HNX := Hd (next_calls hr4)
 generalize tkNext T k = t at *
 obtain ⟨t0, t1, t2⟩ := t
 have hk2 : (t0 == 2) = false := beq_false_of_ne (by simpa using h2)
 have hk1 : (t0 == 1) = false := beq_false_of_ne (by simpa using h1)
 clear h2 h1
 clear ha4 hr4 g3 HI
 go_wp2_with (fail)
 refine HNX.out.mono ?_
 rintro e w5 ⟨rfl, hb5⟩
 obtain ⟨W6, eW6⟩ : ∃ W6, w5.alloc (.cells #[.int .i64 t0, .int .i64 t1, .string t2] 183) = W6 := ⟨_, rfl⟩
 have hb6 : Below w5.heap.size w5 W6 := by rw [← eW6]; exact (Below.refl _ _).alloc (Nat.le_refl _) _
 have hb56 := hb5.trans (hb6.mono hb5.size)
 have HPS6 : Hid (PS w W6 w5.heap.size B T E tv dp ns (t0, t1, t2) k) := ⟨HR4.out.below hb56, HA4.out.trans (aside_below hb56), HP4.out.below hb56, HE4.out.below hb56, by rw [← eW6]; exact Blk.new _ _ _, by have := HZ4.out; have := hb5.size; omega⟩
 have x0 := HPS6.out.p0
 have y0 := HPS6.out.t0
 clear hb5 hb6 hb56 HR4 HA4 HP4 HE4 HZ4 g4 HNX HP3 HE3 HA3 HR3 HZ3
 have h := eat_no HPS6.out.rdr tTrue HTT.out
 unfold tTrue at h
 have HE := Hd h
 clear h
 go_wp2_with (fail)
 refine HE.out.mono ?_
 rintro e w7 ⟨rfl, ha, hr⟩
 clear HE
 have HPS7 := Hd (HPS6.out.step HBL.out ha hr)
 have x7 := HPS7.out.p0
 have y7 := HPS7.out.t0
 clear ha hr x0 y0 HPS6 
 have h := eat_no HPS7.out.rdr tFalse HTF.out
 unfold tFalse at h
 have HE := Hd h
 clear h
 go_wp2_with (fail)
 refine HE.out.mono ?_
 rintro e w8 ⟨rfl, ha, hr⟩
 clear HE
 have HPS8 := Hd (HPS7.out.step HBL.out ha hr)
 have x8 := HPS8.out.p0
 have y8 := HPS8.out.t0
 clear ha hr x7 y7 HPS7 
 have h := eat_no HPS8.out.rdr tMinus HTM.out
 unfold tMinus at h
 have HE := Hd h
 clear h
 go_wp2_with (fail)
 refine HE.out.mono ?_
 rintro e w9 ⟨rfl, ha, hr⟩
 clear HE
 have HPS9 := Hd (HPS8.out.step HBL.out ha hr)
 have x9 := HPS9.out.p0
 have y9 := HPS9.out.t0
 clear ha hr x8 y8 HPS8 
 have h := eat_no HPS9.out.rdr tNot HTN.out
 unfold tNot at h
 have HE := Hd h
 clear h
 go_wp2_with (fail)
 refine HE.out.mono ?_
 rintro e w10 ⟨rfl, ha, hr⟩
 clear HE
 have HPS10 := Hd (HPS9.out.step HBL.out ha hr)
 have x10 := HPS10.out.p0
 have y10 := HPS10.out.t0
 clear ha hr x9 y9 HPS9 
 have h := eat_no HPS10.out.rdr tLeft HTL.out
 unfold tLeft at h
 have HE := Hd h
 clear h
 go_wp2_with (fail)
 refine HE.out.mono ?_
 rintro e w11 ⟨rfl, ha, hr⟩
 clear HE
 have HPS11 := Hd (HPS10.out.step HBL.out ha hr)
 have x11 := HPS11.out.p0
 have y11 := HPS11.out.t0
 clear ha hr x10 y10 HPS10 
 have h := eat_yes HPS11.out.rdr tRelease HTR.out
 unfold tRelease at h
 have HE := Hd h
 clear h
 go_wp2_with (fail)
 refine HE.out.mono ?_
 rintro e w12 ⟨rfl, ha, hr⟩
 clear HE
 have HPS12 := Hd (HPS11.out.step HBL.out ha hr)
 have x12 := HPS12.out.p0
 have y12 := HPS12.out.t0
 clear ha hr x11 y11 HPS11 
 have h := must_calls HPS12.out.rdr tLeft
 rw [Q0.out] at h
 unfold tLeft at h
 have HE := Hd h
 clear h
 go_wp2_with (fail)
 refine HE.out.mono ?_
 rintro e w13 ⟨ha, v13, rfl, hr, rfl⟩
 clear HE
 have HPS13 := Hd (HPS12.out.step HBL.out ha hr)
 have x13 := HPS13.out.p0
 have y13 := HPS13.out.t0
 clear ha hr x12 y12 HPS12 
 have h := HXX.out _ _ HPS13.out.rdr
 rw [Q1.out] at h
 have HE := Hd h
 clear h
 go_wp2_with (fail)
 refine HE.out.mono ?_
 rintro e we ⟨ha, ve, rfl, hr, hx⟩
 clear HE
 have HXE := Hd (hx.stays (since_mono _ (show w.heap.size + 2 ≤ w13.heap.size from by have h1 := HPS13.out.res.lt; omega)))
 obtain ⟨vl, va, rfl, hvl, hva⟩ := hx
 obtain ⟨pl, cl, rfl, _⟩ := hvl
 obtain ⟨pa, ca, rfl, _⟩ := hva
 obtain ⟨w14, eB⟩ : ∃ W, we.alloc (.cells #[.int .i64 x.kind, .int .i64 x.at_, .int .i64 x.num, .int .i64 x.ty, .string x.name, .slice pl x.lab.length cl, .slice pa x.kids.length ca] 26) = W := ⟨_, rfl⟩
 have hbb : Below we.heap.size we w14 := by rw [← eB]; exact (Below.refl _ _).alloc (Nat.le_refl _) _
 have HBX : Hid (Blk w14 we.heap.size (exC x (.slice pl x.lab.length cl) (.slice pa x.kids.length ca)) 26) := by rw [← eB]; exact Blk.new _ _ _
 have HXF := Hd (HXE.out.stays (keeps_hide hbb.size fun b hb hp => ⟨hp, hbb.block b hb⟩ : Keeps (since (w.heap.size + 2) we) (since (w.heap.size + 2) w14)))
 have HNE : Hid (we.heap.size ≠ B ∧ w.heap.size + 1 < we.heap.size) := ⟨by have h1 := hr.lt; omega, by have h1 := HPS13.out.res.lt; have h2 := ha.size; omega⟩
 replace hr := hr.below hbb
 replace ha := ha.trans (aside_below (B := B) hbb)
 clear HXE hbb
 have HPS14 := Hd (HPS13.out.step HBL.out ha hr)
 have x14 := HPS14.out.p0
 have y14 := HPS14.out.t0
 clear ha hr x13 y13 HPS13 
 have h := must_calls HPS14.out.rdr tTo
 rw [Q2.out] at h
 unfold tTo at h
 have HE := Hd h
 clear h
 go_wp2_with (fail)
 refine HE.out.mono ?_
 rintro e wz ⟨ha, rfl, hlf⟩
 go_wp2_with (fail)
 exact HPS14.out.bad HBL.out ha hlf
theorem prim_rel3 (h : Rdr w B T E tv k dp ns) (hns : ns < 12) (h2 : (tkNext T k).1 ≠ 2) (htt : tkIs T k tTrue = false) (htf : tkIs T k tFalse = false) (h1 : (tkNext T k).1 ≠ 1) (htm : tkIs T k tMinus = false) (htn : tkIs T k tNot = false) (htl : tkIs T k tLeft = false) (htr : tkIs T k tRelease = true) {pr : Nat → Rs Ex} (hx : ReadsEx B T E tv dp (ns + 1) 69 #[.pointer (some ⟨B, 0, none⟩), .int .i64 1] pr) {u1 : Unit} {k1 : Nat} (q0 : mustP T E tLeft (k + 1) = .ok u1 k1) {x : Ex} {k2 : Nat} (q1 : pr k1 = .ok x k2) {u3 : Unit} {k3 : Nat} (q2 : mustP T E tTo k2 = .ok u3 k3) {c a : Int} (q3 : labelP T E k3 = .bad c a) :
 Calls Tryz.prog 167 #[.pointer (some ⟨B, 0, none⟩)] w (Does w B T E tv dp ns ExIs (.bad c a)) := by
 have hmf := mf_run
 have HL := Hd h.len
 have HBL : Hid (B < w.heap.size) := h.lt
 have HNS := Hd hns
 have H0 := Hd h
 have HTT := Hd htt
 have HTF := Hd htf
 have HTM := Hd htm
 have HTN := Hd htn
 have HTL := Hd htl
 have HTR := Hd htr
 clear htt htf htm htn htl htr
 have HXX := Hd hx
 clear hx
 have Q0 := Hd q0
 clear q0
 have Q1 := Hd q1
 clear q1
 have Q2 := Hd q2
 clear q2
 have Q3 := Hd q3
 clear q3
 obtain ⟨W2, eW⟩ : ∃ W2, (w.alloc (.cells #[.pointer (some ⟨B, 0, none⟩)] 102)).alloc (.cells #[.int .i64 0, .int .i64 0, .int .i64 0, .int .i64 0, .string ⟨#[]⟩, .slice none 0 0, .slice none 0 0] 26) = W2 := ⟨_, rfl⟩
 obtain ⟨z2, hb2, m0, m1⟩ := boxes2 eW
 have hP2 : Blk W2 w.heap.size [.pointer (some ⟨B, 0, none⟩)] 102 := by rw [← eW]; exact (Blk.new _ _ _).below ((Below.refl _ _).alloc (Nat.le_refl _) _)
 have hE2 : Blk W2 (w.heap.size + 1) zeroC 26 := by rw [← eW]; exact Blk.new2 _ _ _ _ _
 obtain ⟨W3, eW3⟩ : ∃ W3, W2.drew = W3 := ⟨_, rfl⟩
 have hb3 : Below W2.heap.size W2 W3 := by rw [← eW3]; exact (Below.refl _ _).drew
 have g2 : W2.cell? ⟨w.heap.size, 0, none⟩ = some (.pointer (some ⟨B, 0, none⟩)) := hP2.cell 0
 have g3 : W3.cell? ⟨w.heap.size, 0, none⟩ = some (.pointer (some ⟨B, 0, none⟩)) := (hP2.below hb3).cell 0
 have HR3 := Hd ((h.below hb2).below hb3)
 have HI := Hd (into_calls4 HR3.out (Nat.le_of_lt hns))
 have HP3 := Hd (hP2.below hb3)
 have HE3 := Hd (hE2.below hb3)
 have HA3 := Hd (aside_below (B := B) (hb2.trans (hb3.mono hb2.size)))
 have HNB : Hid (w.heap.size ≠ B ∧ w.heap.size + 1 ≠ B) := by have := h.lt; unfold Hid; omega
 have HZ3 : Hid (W3.heap.size = w.heap.size + 2) := by rw [← eW3]; exact z2
 clear h hns hP2 hE2 hb2 hb3 m0 m1 z2
 go_enter_defers Tryz.func167, Tryz.ntmps167
 go_wp2_with (fail)
 refine wp_region_calm_tail 4 (by kernel_rfl) (by kernel_rfl) ?_
 rw [eW3]
 clear eW3 eW g2
 simp only [List.take_succ_cons, List.take_zero, List.drop_succ_cons, List.drop_zero]
 repeat go_big_quiet_step (fail)
 refine wpQuiet_nil ?_
 go_wp2_with (fail)
 refine HI.out.mono ?_
 rintro e w4 ⟨ha4, he4⟩
 rw [if_pos HNS.out] at he4
 obtain ⟨rfl, hr4⟩ := he4
 have HR4 := Hd hr4
 have HA4 := Hd (HA3.out.trans ha4)
 have HP4 := Hd (HP3.out.aside ha4 HNB.out.1)
 have HE4 := Hd (HE3.out.aside ha4 HNB.out.2)
 have HZ4 : Hid (w.heap.size + 1 < w4.heap.size) := HE4.out.lt
 have g4 : w4.cell? ⟨w.heap.size, 0, none⟩ = some (.pointer (some ⟨B, 0, none⟩)) := HP4.out.cell 0
 have HNX := Hd (next_calls hr4)
 generalize tkNext T k = t at *
 obtain ⟨t0, t1, t2⟩ := t
 have hk2 : (t0 == 2) = false := beq_false_of_ne (by simpa using h2)
 have hk1 : (t0 == 1) = false := beq_false_of_ne (by simpa using h1)
 clear h2 h1
 clear ha4 hr4 g3 HI
 go_wp2_with (fail)
 refine HNX.out.mono ?_
 rintro e w5 ⟨rfl, hb5⟩
 obtain ⟨W6, eW6⟩ : ∃ W6, w5.alloc (.cells #[.int .i64 t0, .int .i64 t1, .string t2] 183) = W6 := ⟨_, rfl⟩
 have hb6 : Below w5.heap.size w5 W6 := by rw [← eW6]; exact (Below.refl _ _).alloc (Nat.le_refl _) _
 have hb56 := hb5.trans (hb6.mono hb5.size)
 have HPS6 : Hid (PS w W6 w5.heap.size B T E tv dp ns (t0, t1, t2) k) := ⟨HR4.out.below hb56, HA4.out.trans (aside_below hb56), HP4.out.below hb56, HE4.out.below hb56, by rw [← eW6]; exact Blk.new _ _ _, by have := HZ4.out; have := hb5.size; omega⟩
 have x0 := HPS6.out.p0
 have y0 := HPS6.out.t0
 clear hb5 hb6 hb56 HR4 HA4 HP4 HE4 HZ4 g4 HNX HP3 HE3 HA3 HR3 HZ3
 have h := eat_no HPS6.out.rdr tTrue HTT.out
 unfold tTrue at h
 have HE := Hd h
 clear h
 go_wp2_with (fail)
 refine HE.out.mono ?_
 rintro e w7 ⟨rfl, ha, hr⟩
 clear HE
 have HPS7 := Hd (HPS6.out.step HBL.out ha hr)
 have x7 := HPS7.out.p0
 have y7 := HPS7.out.t0
 clear ha hr x0 y0 HPS6 
 have h := eat_no HPS7.out.rdr tFalse HTF.out
 unfold tFalse at h
 have HE := Hd h
 clear h
 go_wp2_with (fail)
 refine HE.out.mono ?_
 rintro e w8 ⟨rfl, ha, hr⟩
 clear HE
 have HPS8 := Hd (HPS7.out.step HBL.out ha hr)
 have x8 := HPS8.out.p0
 have y8 := HPS8.out.t0
 clear ha hr x7 y7 HPS7 
 have h := eat_no HPS8.out.rdr tMinus HTM.out
 unfold tMinus at h
 have HE := Hd h
 clear h
 go_wp2_with (fail)
 refine HE.out.mono ?_
 rintro e w9 ⟨rfl, ha, hr⟩
 clear HE
 have HPS9 := Hd (HPS8.out.step HBL.out ha hr)
 have x9 := HPS9.out.p0
 have y9 := HPS9.out.t0
 clear ha hr x8 y8 HPS8 
 have h := eat_no HPS9.out.rdr tNot HTN.out
 unfold tNot at h
 have HE := Hd h
 clear h
 go_wp2_with (fail)
 refine HE.out.mono ?_
 rintro e w10 ⟨rfl, ha, hr⟩
 clear HE
 have HPS10 := Hd (HPS9.out.step HBL.out ha hr)
 have x10 := HPS10.out.p0
 have y10 := HPS10.out.t0
 clear ha hr x9 y9 HPS9 
 have h := eat_no HPS10.out.rdr tLeft HTL.out
 unfold tLeft at h
 have HE := Hd h
 clear h
 go_wp2_with (fail)
 refine HE.out.mono ?_
 rintro e w11 ⟨rfl, ha, hr⟩
 clear HE
 have HPS11 := Hd (HPS10.out.step HBL.out ha hr)
 have x11 := HPS11.out.p0
 have y11 := HPS11.out.t0
 clear ha hr x10 y10 HPS10 
 have h := eat_yes HPS11.out.rdr tRelease HTR.out
 unfold tRelease at h
 have HE := Hd h
 clear h
 go_wp2_with (fail)
 refine HE.out.mono ?_
 rintro e w12 ⟨rfl, ha, hr⟩
 clear HE
 have HPS12 := Hd (HPS11.out.step HBL.out ha hr)
 have x12 := HPS12.out.p0
 have y12 := HPS12.out.t0
 clear ha hr x11 y11 HPS11 
 have h := must_calls HPS12.out.rdr tLeft
 rw [Q0.out] at h
 unfold tLeft at h
 have HE := Hd h
 clear h
 go_wp2_with (fail)
 refine HE.out.mono ?_
 rintro e w13 ⟨ha, v13, rfl, hr, rfl⟩
 clear HE
 have HPS13 := Hd (HPS12.out.step HBL.out ha hr)
 have x13 := HPS13.out.p0
 have y13 := HPS13.out.t0
 clear ha hr x12 y12 HPS12 
 have h := HXX.out _ _ HPS13.out.rdr
 rw [Q1.out] at h
 have HE := Hd h
 clear h
 go_wp2_with (fail)
 refine HE.out.mono ?_
 rintro e we ⟨ha, ve, rfl, hr, hx⟩
 clear HE
 have HXE := Hd (hx.stays (since_mono _ (show w.heap.size + 2 ≤ w13.heap.size from by have h1 := HPS13.out.res.lt; omega)))
 obtain ⟨vl, va, rfl, hvl, hva⟩ := hx
 obtain ⟨pl, cl, rfl, _⟩ := hvl
 obtain ⟨pa, ca, rfl, _⟩ := hva
 obtain ⟨w14, eB⟩ : ∃ W, we.alloc (.cells #[.int .i64 x.kind, .int .i64 x.at_, .int .i64 x.num, .int .i64 x.ty, .string x.name, .slice pl x.lab.length cl, .slice pa x.kids.length ca] 26) = W := ⟨_, rfl⟩
 have hbb : Below we.heap.size we w14 := by rw [← eB]; exact (Below.refl _ _).alloc (Nat.le_refl _) _
 have HBX : Hid (Blk w14 we.heap.size (exC x (.slice pl x.lab.length cl) (.slice pa x.kids.length ca)) 26) := by rw [← eB]; exact Blk.new _ _ _
 have HXF := Hd (HXE.out.stays (keeps_hide hbb.size fun b hb hp => ⟨hp, hbb.block b hb⟩ : Keeps (since (w.heap.size + 2) we) (since (w.heap.size + 2) w14)))
 have HNE : Hid (we.heap.size ≠ B ∧ w.heap.size + 1 < we.heap.size) := ⟨by have h1 := hr.lt; omega, by have h1 := HPS13.out.res.lt; have h2 := ha.size; omega⟩
 replace hr := hr.below hbb
 replace ha := ha.trans (aside_below (B := B) hbb)
 clear HXE hbb
 have HPS14 := Hd (HPS13.out.step HBL.out ha hr)
 have x14 := HPS14.out.p0
 have y14 := HPS14.out.t0
 clear ha hr x13 y13 HPS13 
 have h := must_calls HPS14.out.rdr tTo
 rw [Q2.out] at h
 unfold tTo at h
 have HE := Hd h
 clear h
 go_wp2_with (fail)
 refine HE.out.mono ?_
 rintro e w15 ⟨ha, v15, rfl, hr, rfl⟩
 clear HE
 have HXF15 := Hd (HXF.out.stays (since_aside ha (by have h1 := HBL.out; omega)))
 have HBX15 := Hd (HBX.out.aside ha HNE.out.1)
 have HPS15 := Hd (HPS14.out.step HBL.out ha hr)
 have x15 := HPS15.out.p0
 have y15 := HPS15.out.t0
 clear ha hr x14 y14 HPS14 eB
 have h := label_calls HPS15.out.rdr
 rw [Q3.out] at h
 have HE := Hd h
 clear h
 go_wp2_with (fail)
 refine HE.out.mono ?_
 rintro e wz ⟨ha, rfl, hlf⟩
 go_wp2_with (fail)
 exact HPS15.out.bad HBL.out ha hlf
theorem prim_rel4 (h : Rdr w B T E tv k dp ns) (hns : ns < 12) (h2 : (tkNext T k).1 ≠ 2) (htt : tkIs T k tTrue = false) (htf : tkIs T k tFalse = false) (h1 : (tkNext T k).1 ≠ 1) (htm : tkIs T k tMinus = false) (htn : tkIs T k tNot = false) (htl : tkIs T k tLeft = false) (htr : tkIs T k tRelease = true) {pr : Nat → Rs Ex} (hx : ReadsEx B T E tv dp (ns + 1) 69 #[.pointer (some ⟨B, 0, none⟩), .int .i64 1] pr) {u1 : Unit} {k1 : Nat} (q0 : mustP T E tLeft (k + 1) = .ok u1 k1) {x : Ex} {k2 : Nat} (q1 : pr k1 = .ok x k2) {u3 : Unit} {k3 : Nat} (q2 : mustP T E tTo k2 = .ok u3 k3) {lb : Lab} {k4 : Nat} (q3 : labelP T E k3 = .ok lb k4) {c a : Int} (q4 : mustP T E tRight k4 = .bad c a) :
 Calls Tryz.prog 167 #[.pointer (some ⟨B, 0, none⟩)] w (Does w B T E tv dp ns ExIs (.bad c a)) := by
 have hmf := mf_run
 have HL := Hd h.len
 have HBL : Hid (B < w.heap.size) := h.lt
 have HNS := Hd hns
 have H0 := Hd h
 have HTT := Hd htt
 have HTF := Hd htf
 have HTM := Hd htm
 have HTN := Hd htn
 have HTL := Hd htl
 have HTR := Hd htr
 clear htt htf htm htn htl htr
 have HXX := Hd hx
 clear hx
 have Q0 := Hd q0
 clear q0
 have Q1 := Hd q1
 clear q1
 have Q2 := Hd q2
 clear q2
 have Q3 := Hd q3
 clear q3
 have Q4 := Hd q4
 clear q4
 obtain ⟨W2, eW⟩ : ∃ W2, (w.alloc (.cells #[.pointer (some ⟨B, 0, none⟩)] 102)).alloc (.cells #[.int .i64 0, .int .i64 0, .int .i64 0, .int .i64 0, .string ⟨#[]⟩, .slice none 0 0, .slice none 0 0] 26) = W2 := ⟨_, rfl⟩
 obtain ⟨z2, hb2, m0, m1⟩ := boxes2 eW
 have hP2 : Blk W2 w.heap.size [.pointer (some ⟨B, 0, none⟩)] 102 := by rw [← eW]; exact (Blk.new _ _ _).below ((Below.refl _ _).alloc (Nat.le_refl _) _)
 have hE2 : Blk W2 (w.heap.size + 1) zeroC 26 := by rw [← eW]; exact Blk.new2 _ _ _ _ _
 obtain ⟨W3, eW3⟩ : ∃ W3, W2.drew = W3 := ⟨_, rfl⟩
 have hb3 : Below W2.heap.size W2 W3 := by rw [← eW3]; exact (Below.refl _ _).drew
 have g2 : W2.cell? ⟨w.heap.size, 0, none⟩ = some (.pointer (some ⟨B, 0, none⟩)) := hP2.cell 0
 have g3 : W3.cell? ⟨w.heap.size, 0, none⟩ = some (.pointer (some ⟨B, 0, none⟩)) := (hP2.below hb3).cell 0
 have HR3 := Hd ((h.below hb2).below hb3)
 have HI := Hd (into_calls4 HR3.out (Nat.le_of_lt hns))
 have HP3 := Hd (hP2.below hb3)
 have HE3 := Hd (hE2.below hb3)
 have HA3 := Hd (aside_below (B := B) (hb2.trans (hb3.mono hb2.size)))
 have HNB : Hid (w.heap.size ≠ B ∧ w.heap.size + 1 ≠ B) := by have := h.lt; unfold Hid; omega
 have HZ3 : Hid (W3.heap.size = w.heap.size + 2) := by rw [← eW3]; exact z2
 clear h hns hP2 hE2 hb2 hb3 m0 m1 z2
 go_enter_defers Tryz.func167, Tryz.ntmps167
 go_wp2_with (fail)
 refine wp_region_calm_tail 4 (by kernel_rfl) (by kernel_rfl) ?_
 rw [eW3]
 clear eW3 eW g2
 simp only [List.take_succ_cons, List.take_zero, List.drop_succ_cons, List.drop_zero]
 repeat go_big_quiet_step (fail)
 refine wpQuiet_nil ?_
 go_wp2_with (fail)
 refine HI.out.mono ?_
 rintro e w4 ⟨ha4, he4⟩
 rw [if_pos HNS.out] at he4
 obtain ⟨rfl, hr4⟩ := he4
 have HR4 := Hd hr4
 have HA4 := Hd (HA3.out.trans ha4)
 have HP4 := Hd (HP3.out.aside ha4 HNB.out.1)
 have HE4 := Hd (HE3.out.aside ha4 HNB.out.2)
 have HZ4 : Hid (w.heap.size + 1 < w4.heap.size) := HE4.out.lt
 have g4 : w4.cell? ⟨w.heap.size, 0, none⟩ = some (.pointer (some ⟨B, 0, none⟩)) := HP4.out.cell 0
 have HNX := Hd (next_calls hr4)
 generalize tkNext T k = t at *
 obtain ⟨t0, t1, t2⟩ := t
 have hk2 : (t0 == 2) = false := beq_false_of_ne (by simpa using h2)
 have hk1 : (t0 == 1) = false := beq_false_of_ne (by simpa using h1)
 clear h2 h1
 clear ha4 hr4 g3 HI
 go_wp2_with (fail)
 refine HNX.out.mono ?_
 rintro e w5 ⟨rfl, hb5⟩
 obtain ⟨W6, eW6⟩ : ∃ W6, w5.alloc (.cells #[.int .i64 t0, .int .i64 t1, .string t2] 183) = W6 := ⟨_, rfl⟩
 have hb6 : Below w5.heap.size w5 W6 := by rw [← eW6]; exact (Below.refl _ _).alloc (Nat.le_refl _) _
 have hb56 := hb5.trans (hb6.mono hb5.size)
 have HPS6 : Hid (PS w W6 w5.heap.size B T E tv dp ns (t0, t1, t2) k) := ⟨HR4.out.below hb56, HA4.out.trans (aside_below hb56), HP4.out.below hb56, HE4.out.below hb56, by rw [← eW6]; exact Blk.new _ _ _, by have := HZ4.out; have := hb5.size; omega⟩
 have x0 := HPS6.out.p0
 have y0 := HPS6.out.t0
 clear hb5 hb6 hb56 HR4 HA4 HP4 HE4 HZ4 g4 HNX HP3 HE3 HA3 HR3 HZ3
 have h := eat_no HPS6.out.rdr tTrue HTT.out
 unfold tTrue at h
 have HE := Hd h
 clear h
 go_wp2_with (fail)
 refine HE.out.mono ?_
 rintro e w7 ⟨rfl, ha, hr⟩
 clear HE
 have HPS7 := Hd (HPS6.out.step HBL.out ha hr)
 have x7 := HPS7.out.p0
 have y7 := HPS7.out.t0
 clear ha hr x0 y0 HPS6 
 have h := eat_no HPS7.out.rdr tFalse HTF.out
 unfold tFalse at h
 have HE := Hd h
 clear h
 go_wp2_with (fail)
 refine HE.out.mono ?_
 rintro e w8 ⟨rfl, ha, hr⟩
 clear HE
 have HPS8 := Hd (HPS7.out.step HBL.out ha hr)
 have x8 := HPS8.out.p0
 have y8 := HPS8.out.t0
 clear ha hr x7 y7 HPS7 
 have h := eat_no HPS8.out.rdr tMinus HTM.out
 unfold tMinus at h
 have HE := Hd h
 clear h
 go_wp2_with (fail)
 refine HE.out.mono ?_
 rintro e w9 ⟨rfl, ha, hr⟩
 clear HE
 have HPS9 := Hd (HPS8.out.step HBL.out ha hr)
 have x9 := HPS9.out.p0
 have y9 := HPS9.out.t0
 clear ha hr x8 y8 HPS8 
 have h := eat_no HPS9.out.rdr tNot HTN.out
 unfold tNot at h
 have HE := Hd h
 clear h
 go_wp2_with (fail)
 refine HE.out.mono ?_
 rintro e w10 ⟨rfl, ha, hr⟩
 clear HE
 have HPS10 := Hd (HPS9.out.step HBL.out ha hr)
 have x10 := HPS10.out.p0
 have y10 := HPS10.out.t0
 clear ha hr x9 y9 HPS9 
 have h := eat_no HPS10.out.rdr tLeft HTL.out
 unfold tLeft at h
 have HE := Hd h
 clear h
 go_wp2_with (fail)
 refine HE.out.mono ?_
 rintro e w11 ⟨rfl, ha, hr⟩
 clear HE
 have HPS11 := Hd (HPS10.out.step HBL.out ha hr)
 have x11 := HPS11.out.p0
 have y11 := HPS11.out.t0
 clear ha hr x10 y10 HPS10 
 have h := eat_yes HPS11.out.rdr tRelease HTR.out
 unfold tRelease at h
 have HE := Hd h
 clear h
 go_wp2_with (fail)
 refine HE.out.mono ?_
 rintro e w12 ⟨rfl, ha, hr⟩
 clear HE
 have HPS12 := Hd (HPS11.out.step HBL.out ha hr)
 have x12 := HPS12.out.p0
 have y12 := HPS12.out.t0
 clear ha hr x11 y11 HPS11 
 have h := must_calls HPS12.out.rdr tLeft
 rw [Q0.out] at h
 unfold tLeft at h
 have HE := Hd h
 clear h
 go_wp2_with (fail)
 refine HE.out.mono ?_
 rintro e w13 ⟨ha, v13, rfl, hr, rfl⟩
 clear HE
 have HPS13 := Hd (HPS12.out.step HBL.out ha hr)
 have x13 := HPS13.out.p0
 have y13 := HPS13.out.t0
 clear ha hr x12 y12 HPS12 
 have h := HXX.out _ _ HPS13.out.rdr
 rw [Q1.out] at h
 have HE := Hd h
 clear h
 go_wp2_with (fail)
 refine HE.out.mono ?_
 rintro e we ⟨ha, ve, rfl, hr, hx⟩
 clear HE
 have HXE := Hd (hx.stays (since_mono _ (show w.heap.size + 2 ≤ w13.heap.size from by have h1 := HPS13.out.res.lt; omega)))
 obtain ⟨vl, va, rfl, hvl, hva⟩ := hx
 obtain ⟨pl, cl, rfl, _⟩ := hvl
 obtain ⟨pa, ca, rfl, _⟩ := hva
 obtain ⟨w14, eB⟩ : ∃ W, we.alloc (.cells #[.int .i64 x.kind, .int .i64 x.at_, .int .i64 x.num, .int .i64 x.ty, .string x.name, .slice pl x.lab.length cl, .slice pa x.kids.length ca] 26) = W := ⟨_, rfl⟩
 have hbb : Below we.heap.size we w14 := by rw [← eB]; exact (Below.refl _ _).alloc (Nat.le_refl _) _
 have HBX : Hid (Blk w14 we.heap.size (exC x (.slice pl x.lab.length cl) (.slice pa x.kids.length ca)) 26) := by rw [← eB]; exact Blk.new _ _ _
 have HXF := Hd (HXE.out.stays (keeps_hide hbb.size fun b hb hp => ⟨hp, hbb.block b hb⟩ : Keeps (since (w.heap.size + 2) we) (since (w.heap.size + 2) w14)))
 have HNE : Hid (we.heap.size ≠ B ∧ w.heap.size + 1 < we.heap.size) := ⟨by have h1 := hr.lt; omega, by have h1 := HPS13.out.res.lt; have h2 := ha.size; omega⟩
 replace hr := hr.below hbb
 replace ha := ha.trans (aside_below (B := B) hbb)
 clear HXE hbb
 have HPS14 := Hd (HPS13.out.step HBL.out ha hr)
 have x14 := HPS14.out.p0
 have y14 := HPS14.out.t0
 clear ha hr x13 y13 HPS13 
 have h := must_calls HPS14.out.rdr tTo
 rw [Q2.out] at h
 unfold tTo at h
 have HE := Hd h
 clear h
 go_wp2_with (fail)
 refine HE.out.mono ?_
 rintro e w15 ⟨ha, v15, rfl, hr, rfl⟩
 clear HE
 have HXF15 := Hd (HXF.out.stays (since_aside ha (by have h1 := HBL.out; omega)))
 have HBX15 := Hd (HBX.out.aside ha HNE.out.1)
 have HPS15 := Hd (HPS14.out.step HBL.out ha hr)
 have x15 := HPS15.out.p0
 have y15 := HPS15.out.t0
 clear ha hr x14 y14 HPS14 eB
 have h := label_calls HPS15.out.rdr
 rw [Q3.out] at h
 have HE := Hd h
 clear h
 go_wp2_with (fail)
 refine HE.out.mono ?_
 rintro e w16 ⟨ha, vb, rfl, hr, hlb⟩
 clear HE
 have HLB : Hid (Lbl (since (w.heap.size + 2) w16) lb vb) := Lbl.stays (since_mono _ (by have h1 := HPS15.out.res.lt; omega)) hlb
 obtain ⟨pb, cb, rfl, _⟩ := hlb
 have HXF16 := Hd (HXF15.out.stays (since_aside ha (by have h1 := HBL.out; omega)))
 have HBX16 := Hd (HBX15.out.aside ha HNE.out.1)
 have HPS16 := Hd (HPS15.out.step HBL.out ha hr)
 have x16 := HPS16.out.p0
 have y16 := HPS16.out.t0
 clear ha hr x15 y15 HPS15 
 have h := must_calls HPS16.out.rdr tRight
 rw [Q4.out] at h
 unfold tRight at h
 have HE := Hd h
 clear h
 go_wp2_with (fail)
 refine HE.out.mono ?_
 rintro e wz ⟨ha, rfl, hlf⟩
 go_wp2_with (fail)
 exact HPS16.out.bad HBL.out ha hlf
theorem prim_rel5 (h : Rdr w B T E tv k dp ns) (hns : ns < 12) (h2 : (tkNext T k).1 ≠ 2) (htt : tkIs T k tTrue = false) (htf : tkIs T k tFalse = false) (h1 : (tkNext T k).1 ≠ 1) (htm : tkIs T k tMinus = false) (htn : tkIs T k tNot = false) (htl : tkIs T k tLeft = false) (htr : tkIs T k tRelease = true) {pr : Nat → Rs Ex} (hx : ReadsEx B T E tv dp (ns + 1) 69 #[.pointer (some ⟨B, 0, none⟩), .int .i64 1] pr) {u1 : Unit} {k1 : Nat} (q0 : mustP T E tLeft (k + 1) = .ok u1 k1) {x : Ex} {k2 : Nat} (q1 : pr k1 = .ok x k2) {u3 : Unit} {k3 : Nat} (q2 : mustP T E tTo k2 = .ok u3 k3) {lb : Lab} {k4 : Nat} (q3 : labelP T E k3 = .ok lb k4) {u5 : Unit} {k5 : Nat} (q4 : mustP T E tRight k4 = .ok u5 k5) :
 Calls Tryz.prog 167 #[.pointer (some ⟨B, 0, none⟩)] w (Does w B T E tv dp ns ExIs (.ok (.mk 5 (tkNext T k).2.1 0 0 ⟨#[]⟩ lb [x]) k5)) := by
 have hmf := mf_run
 have HL := Hd h.len
 have HBL : Hid (B < w.heap.size) := h.lt
 have HNS := Hd hns
 have H0 := Hd h
 have HTT := Hd htt
 have HTF := Hd htf
 have HTM := Hd htm
 have HTN := Hd htn
 have HTL := Hd htl
 have HTR := Hd htr
 clear htt htf htm htn htl htr
 have HXX := Hd hx
 clear hx
 have Q0 := Hd q0
 clear q0
 have Q1 := Hd q1
 clear q1
 have Q2 := Hd q2
 clear q2
 have Q3 := Hd q3
 clear q3
 have Q4 := Hd q4
 clear q4
 obtain ⟨W2, eW⟩ : ∃ W2, (w.alloc (.cells #[.pointer (some ⟨B, 0, none⟩)] 102)).alloc (.cells #[.int .i64 0, .int .i64 0, .int .i64 0, .int .i64 0, .string ⟨#[]⟩, .slice none 0 0, .slice none 0 0] 26) = W2 := ⟨_, rfl⟩
 obtain ⟨z2, hb2, m0, m1⟩ := boxes2 eW
 have hP2 : Blk W2 w.heap.size [.pointer (some ⟨B, 0, none⟩)] 102 := by rw [← eW]; exact (Blk.new _ _ _).below ((Below.refl _ _).alloc (Nat.le_refl _) _)
 have hE2 : Blk W2 (w.heap.size + 1) zeroC 26 := by rw [← eW]; exact Blk.new2 _ _ _ _ _
 obtain ⟨W3, eW3⟩ : ∃ W3, W2.drew = W3 := ⟨_, rfl⟩
 have hb3 : Below W2.heap.size W2 W3 := by rw [← eW3]; exact (Below.refl _ _).drew
 have g2 : W2.cell? ⟨w.heap.size, 0, none⟩ = some (.pointer (some ⟨B, 0, none⟩)) := hP2.cell 0
 have g3 : W3.cell? ⟨w.heap.size, 0, none⟩ = some (.pointer (some ⟨B, 0, none⟩)) := (hP2.below hb3).cell 0
 have HR3 := Hd ((h.below hb2).below hb3)
 have HI := Hd (into_calls4 HR3.out (Nat.le_of_lt hns))
 have HP3 := Hd (hP2.below hb3)
 have HE3 := Hd (hE2.below hb3)
 have HA3 := Hd (aside_below (B := B) (hb2.trans (hb3.mono hb2.size)))
 have HNB : Hid (w.heap.size ≠ B ∧ w.heap.size + 1 ≠ B) := by have := h.lt; unfold Hid; omega
 have HZ3 : Hid (W3.heap.size = w.heap.size + 2) := by rw [← eW3]; exact z2
 clear h hns hP2 hE2 hb2 hb3 m0 m1 z2
 go_enter_defers Tryz.func167, Tryz.ntmps167
 go_wp2_with (fail)
 refine wp_region_calm_tail 4 (by kernel_rfl) (by kernel_rfl) ?_
 rw [eW3]
 clear eW3 eW g2
 simp only [List.take_succ_cons, List.take_zero, List.drop_succ_cons, List.drop_zero]
 repeat go_big_quiet_step (fail)
 refine wpQuiet_nil ?_
 go_wp2_with (fail)
 refine HI.out.mono ?_
 rintro e w4 ⟨ha4, he4⟩
 rw [if_pos HNS.out] at he4
 obtain ⟨rfl, hr4⟩ := he4
 have HR4 := Hd hr4
 have HA4 := Hd (HA3.out.trans ha4)
 have HP4 := Hd (HP3.out.aside ha4 HNB.out.1)
 have HE4 := Hd (HE3.out.aside ha4 HNB.out.2)
 have HZ4 : Hid (w.heap.size + 1 < w4.heap.size) := HE4.out.lt
 have g4 : w4.cell? ⟨w.heap.size, 0, none⟩ = some (.pointer (some ⟨B, 0, none⟩)) := HP4.out.cell 0
 have HNX := Hd (next_calls hr4)
 generalize tkNext T k = t at *
 obtain ⟨t0, t1, t2⟩ := t
 have hk2 : (t0 == 2) = false := beq_false_of_ne (by simpa using h2)
 have hk1 : (t0 == 1) = false := beq_false_of_ne (by simpa using h1)
 clear h2 h1
 clear ha4 hr4 g3 HI
 go_wp2_with (fail)
 refine HNX.out.mono ?_
 rintro e w5 ⟨rfl, hb5⟩
 obtain ⟨W6, eW6⟩ : ∃ W6, w5.alloc (.cells #[.int .i64 t0, .int .i64 t1, .string t2] 183) = W6 := ⟨_, rfl⟩
 have hb6 : Below w5.heap.size w5 W6 := by rw [← eW6]; exact (Below.refl _ _).alloc (Nat.le_refl _) _
 have hb56 := hb5.trans (hb6.mono hb5.size)
 have HPS6 : Hid (PS w W6 w5.heap.size B T E tv dp ns (t0, t1, t2) k) := ⟨HR4.out.below hb56, HA4.out.trans (aside_below hb56), HP4.out.below hb56, HE4.out.below hb56, by rw [← eW6]; exact Blk.new _ _ _, by have := HZ4.out; have := hb5.size; omega⟩
 have x0 := HPS6.out.p0
 have y0 := HPS6.out.t0
 clear hb5 hb6 hb56 HR4 HA4 HP4 HE4 HZ4 g4 HNX HP3 HE3 HA3 HR3 HZ3
 have h := eat_no HPS6.out.rdr tTrue HTT.out
 unfold tTrue at h
 have HE := Hd h
 clear h
 go_wp2_with (fail)
 refine HE.out.mono ?_
 rintro e w7 ⟨rfl, ha, hr⟩
 clear HE
 have HPS7 := Hd (HPS6.out.step HBL.out ha hr)
 have x7 := HPS7.out.p0
 have y7 := HPS7.out.t0
 clear ha hr x0 y0 HPS6 
 have h := eat_no HPS7.out.rdr tFalse HTF.out
 unfold tFalse at h
 have HE := Hd h
 clear h
 go_wp2_with (fail)
 refine HE.out.mono ?_
 rintro e w8 ⟨rfl, ha, hr⟩
 clear HE
 have HPS8 := Hd (HPS7.out.step HBL.out ha hr)
 have x8 := HPS8.out.p0
 have y8 := HPS8.out.t0
 clear ha hr x7 y7 HPS7 
 have h := eat_no HPS8.out.rdr tMinus HTM.out
 unfold tMinus at h
 have HE := Hd h
 clear h
 go_wp2_with (fail)
 refine HE.out.mono ?_
 rintro e w9 ⟨rfl, ha, hr⟩
 clear HE
 have HPS9 := Hd (HPS8.out.step HBL.out ha hr)
 have x9 := HPS9.out.p0
 have y9 := HPS9.out.t0
 clear ha hr x8 y8 HPS8 
 have h := eat_no HPS9.out.rdr tNot HTN.out
 unfold tNot at h
 have HE := Hd h
 clear h
 go_wp2_with (fail)
 refine HE.out.mono ?_
 rintro e w10 ⟨rfl, ha, hr⟩
 clear HE
 have HPS10 := Hd (HPS9.out.step HBL.out ha hr)
 have x10 := HPS10.out.p0
 have y10 := HPS10.out.t0
 clear ha hr x9 y9 HPS9 
 have h := eat_no HPS10.out.rdr tLeft HTL.out
 unfold tLeft at h
 have HE := Hd h
 clear h
 go_wp2_with (fail)
 refine HE.out.mono ?_
 rintro e w11 ⟨rfl, ha, hr⟩
 clear HE
 have HPS11 := Hd (HPS10.out.step HBL.out ha hr)
 have x11 := HPS11.out.p0
 have y11 := HPS11.out.t0
 clear ha hr x10 y10 HPS10 
 have h := eat_yes HPS11.out.rdr tRelease HTR.out
 unfold tRelease at h
 have HE := Hd h
 clear h
 go_wp2_with (fail)
 refine HE.out.mono ?_
 rintro e w12 ⟨rfl, ha, hr⟩
 clear HE
 have HPS12 := Hd (HPS11.out.step HBL.out ha hr)
 have x12 := HPS12.out.p0
 have y12 := HPS12.out.t0
 clear ha hr x11 y11 HPS11 
 have h := must_calls HPS12.out.rdr tLeft
 rw [Q0.out] at h
 unfold tLeft at h
 have HE := Hd h
 clear h
 go_wp2_with (fail)
 refine HE.out.mono ?_
 rintro e w13 ⟨ha, v13, rfl, hr, rfl⟩
 clear HE
 have HPS13 := Hd (HPS12.out.step HBL.out ha hr)
 have x13 := HPS13.out.p0
 have y13 := HPS13.out.t0
 clear ha hr x12 y12 HPS12 
 have h := HXX.out _ _ HPS13.out.rdr
 rw [Q1.out] at h
 have HE := Hd h
 clear h
 go_wp2_with (fail)
 refine HE.out.mono ?_
 rintro e we ⟨ha, ve, rfl, hr, hx⟩
 clear HE
 have HXE := Hd (hx.stays (since_mono _ (show w.heap.size + 2 ≤ w13.heap.size from by have h1 := HPS13.out.res.lt; omega)))
 obtain ⟨vl, va, rfl, hvl, hva⟩ := hx
 obtain ⟨pl, cl, rfl, _⟩ := hvl
 obtain ⟨pa, ca, rfl, _⟩ := hva
 obtain ⟨w14, eB⟩ : ∃ W, we.alloc (.cells #[.int .i64 x.kind, .int .i64 x.at_, .int .i64 x.num, .int .i64 x.ty, .string x.name, .slice pl x.lab.length cl, .slice pa x.kids.length ca] 26) = W := ⟨_, rfl⟩
 have hbb : Below we.heap.size we w14 := by rw [← eB]; exact (Below.refl _ _).alloc (Nat.le_refl _) _
 have HBX : Hid (Blk w14 we.heap.size (exC x (.slice pl x.lab.length cl) (.slice pa x.kids.length ca)) 26) := by rw [← eB]; exact Blk.new _ _ _
 have HXF := Hd (HXE.out.stays (keeps_hide hbb.size fun b hb hp => ⟨hp, hbb.block b hb⟩ : Keeps (since (w.heap.size + 2) we) (since (w.heap.size + 2) w14)))
 have HNE : Hid (we.heap.size ≠ B ∧ w.heap.size + 1 < we.heap.size) := ⟨by have h1 := hr.lt; omega, by have h1 := HPS13.out.res.lt; have h2 := ha.size; omega⟩
 replace hr := hr.below hbb
 replace ha := ha.trans (aside_below (B := B) hbb)
 clear HXE hbb
 have HPS14 := Hd (HPS13.out.step HBL.out ha hr)
 have x14 := HPS14.out.p0
 have y14 := HPS14.out.t0
 clear ha hr x13 y13 HPS13 
 have h := must_calls HPS14.out.rdr tTo
 rw [Q2.out] at h
 unfold tTo at h
 have HE := Hd h
 clear h
 go_wp2_with (fail)
 refine HE.out.mono ?_
 rintro e w15 ⟨ha, v15, rfl, hr, rfl⟩
 clear HE
 have HXF15 := Hd (HXF.out.stays (since_aside ha (by have h1 := HBL.out; omega)))
 have HBX15 := Hd (HBX.out.aside ha HNE.out.1)
 have HPS15 := Hd (HPS14.out.step HBL.out ha hr)
 have x15 := HPS15.out.p0
 have y15 := HPS15.out.t0
 clear ha hr x14 y14 HPS14 eB
 have h := label_calls HPS15.out.rdr
 rw [Q3.out] at h
 have HE := Hd h
 clear h
 go_wp2_with (fail)
 refine HE.out.mono ?_
 rintro e w16 ⟨ha, vb, rfl, hr, hlb⟩
 clear HE
 have HLB : Hid (Lbl (since (w.heap.size + 2) w16) lb vb) := Lbl.stays (since_mono _ (by have h1 := HPS15.out.res.lt; omega)) hlb
 obtain ⟨pb, cb, rfl, _⟩ := hlb
 have HXF16 := Hd (HXF15.out.stays (since_aside ha (by have h1 := HBL.out; omega)))
 have HBX16 := Hd (HBX15.out.aside ha HNE.out.1)
 have HPS16 := Hd (HPS15.out.step HBL.out ha hr)
 have x16 := HPS16.out.p0
 have y16 := HPS16.out.t0
 clear ha hr x15 y15 HPS15 
 have h := must_calls HPS16.out.rdr tRight
 rw [Q4.out] at h
 unfold tRight at h
 have HE := Hd h
 clear h
 go_wp2_with (fail)
 refine HE.out.mono ?_
 rintro e w17 ⟨ha, v17, rfl, hr, rfl⟩
 clear HE
 have HLB2 := Hd (Lbl.stays (since_aside ha (by have h1 := HBL.out; omega)) HLB.out)
 have HXF17 := Hd (HXF16.out.stays (since_aside ha (by have h1 := HBL.out; omega)))
 have HBX17 := Hd (HBX16.out.aside ha HNE.out.1)
 have HPS17 := Hd (HPS16.out.step HBL.out ha hr)
 have x17 := HPS17.out.p0
 have y17 := HPS17.out.t0
 clear ha hr x16 y16 HPS16 
 obtain ⟨b0, b1, b2, b3, b4, b5, b6⟩ := HBX17.out.cells7
 obtain ⟨wk, eW⟩ : ∃ W, w17.alloc (.cells #[.int .i64 x.kind, .int .i64 x.at_, .int .i64 x.num, .int .i64 x.ty, .string x.name, .slice pl x.lab.length cl, .slice pa x.kids.length ca] 26) = W := ⟨_, rfl⟩
 have hbk : Below w17.heap.size w17 wk := by rw [← eW]; exact (Below.refl _ _).alloc (Nat.le_refl _) _
 have HPSK := Hd (HPS17.out.below HBL.out hbk)
 have HBK : Hid (Blk wk w17.heap.size (exC x (.slice pl x.lab.length cl) (.slice pa x.kids.length ca)) 26) := by rw [← eW]; exact Blk.new _ _ _
 have hks : Keeps (since (w.heap.size + 2) w17) (since (w.heap.size + 2) wk) := keeps_hide hbk.size fun b hb hp => ⟨hp, hbk.block b hb⟩
 have HRES : Hid (ExIs (since (w.heap.size + 2) wk) (.mk 5 t1 0 0 ⟨#[]⟩ lb [x]) (.agg #[.int .i64 5, .int .i64 t1, .int .i64 0, .int .i64 0, .string ⟨#[]⟩, .slice pb lb.length cb, .slice (some ⟨w17.heap.size, 0, none⟩) 1 1])) := ⟨_, _, rfl, HLB2.out.stays hks, exs_one (HXF17.out.stays hks) HBK.out (by have h1 := HPS17.out.res.lt; omega)⟩
 clear hbk hks
 have z0 := HPSK.out.p0
 have ty1 := HPS17.out.t1
 obtain ⟨e0, e1, e2, e3, e4, e5, e6⟩ := HPSK.out.res.cells7
 obtain ⟨f0, f1, f2, f3, f4, f5, f6⟩ := HPSK.out.res.fz7
 go_wp2_with (fail)
 exact HPSK.out.ret HNS.out H0.out rfl HRES.out
theorem prim_deep (h : Rdr w B T E tv k dp ns) (hns : ns = 12) :
 Calls Tryz.prog 167 #[.pointer (some ⟨B, 0, none⟩)] w (Does w B T E tv dp ns ExIs (failP T E 2 k)) := by
 have hmf := mf_run
 have HL := Hd h.len
 have HBL : Hid (B < w.heap.size) := h.lt
 have HNS := Hd hns
 have H0 := Hd h
 obtain ⟨W2, eW⟩ : ∃ W2, (w.alloc (.cells #[.pointer (some ⟨B, 0, none⟩)] 102)).alloc (.cells #[.int .i64 0, .int .i64 0, .int .i64 0, .int .i64 0, .string ⟨#[]⟩, .slice none 0 0, .slice none 0 0] 26) = W2 := ⟨_, rfl⟩
 obtain ⟨z2, hb2, m0, m1⟩ := boxes2 eW
 have hP2 : Blk W2 w.heap.size [.pointer (some ⟨B, 0, none⟩)] 102 := by rw [← eW]; exact (Blk.new _ _ _).below ((Below.refl _ _).alloc (Nat.le_refl _) _)
 have hE2 : Blk W2 (w.heap.size + 1) zeroC 26 := by rw [← eW]; exact Blk.new2 _ _ _ _ _
 obtain ⟨W3, eW3⟩ : ∃ W3, W2.drew = W3 := ⟨_, rfl⟩
 have hb3 : Below W2.heap.size W2 W3 := by rw [← eW3]; exact (Below.refl _ _).drew
 have g2 : W2.cell? ⟨w.heap.size, 0, none⟩ = some (.pointer (some ⟨B, 0, none⟩)) := hP2.cell 0
 have g3 : W3.cell? ⟨w.heap.size, 0, none⟩ = some (.pointer (some ⟨B, 0, none⟩)) := (hP2.below hb3).cell 0
 have HR3 := Hd ((h.below hb2).below hb3)
 have HI := Hd (into_calls4 HR3.out (Nat.le_of_eq hns))
 have HP3 := Hd (hP2.below hb3)
 have HE3 := Hd (hE2.below hb3)
 have HA3 := Hd (aside_below (B := B) (hb2.trans (hb3.mono hb2.size)))
 have HNB : Hid (w.heap.size ≠ B ∧ w.heap.size + 1 ≠ B) := by have := h.lt; unfold Hid; omega
 have HZ3 : Hid (W3.heap.size = w.heap.size + 2) := by rw [← eW3]; exact z2
 clear h hns hP2 hE2 hb2 hb3 m0 m1 z2
 go_enter_defers Tryz.func167, Tryz.ntmps167
 go_wp2_with (fail)
 refine wp_region_calm_tail 4 (by kernel_rfl) (by kernel_rfl) ?_
 rw [eW3]
 clear eW3 eW g2
 simp only [List.take_succ_cons, List.take_zero, List.drop_succ_cons, List.drop_zero]
 repeat go_big_quiet_step (fail)
 refine wpQuiet_nil ?_
 go_wp2_with (fail)
 refine HI.out.mono ?_
 rintro e w4 ⟨ha4, he4⟩
 rw [if_neg (by have h1 := HNS.out; omega)] at he4
 obtain ⟨rfl, hlf⟩ := he4
 have HA := Hd (HA3.out.trans ha4)
 have HLF := Hd hlf
 clear ha4 hlf
 go_wp2_with (fail)
 exact ⟨HA.out, rfl, HLF.out⟩
theorem prim_call_bad (h : Rdr w B T E tv k dp ns) (hns : ns < 12) (h2 : (tkNext T k).1 ≠ 2) (htt : tkIs T k tTrue = false) (htf : tkIs T k tFalse = false) (h1 : (tkNext T k).1 = 1) {pr : Nat → Rs Ex} (hx : ReadsEx B T E tv dp (ns + 1) 69 #[.pointer (some ⟨B, 0, none⟩), .int .i64 1] pr) (hl : tkIs T (k + 1) tLeft = true) {c a : Int} (hq : argsQ T E pr (k + 1) = .bad c a) :
 Calls Tryz.prog 167 #[.pointer (some ⟨B, 0, none⟩)] w (Does w B T E tv dp ns ExIs (.bad c a)) := by
 have hmf := mf_run
 have HL := Hd h.len
 have HBL : Hid (B < w.heap.size) := h.lt
 have HNS := Hd hns
 have H0 := Hd h
 have HTT := Hd htt
 have HTF := Hd htf
 clear htt htf
 have HXX := Hd hx
 clear hx
 have HKL : Hid (k < T.length) := kind_lt (by omega)
 have HLL := Hd hl
 have HQ := Hd hq
 clear hl hq
 obtain ⟨W2, eW⟩ : ∃ W2, (w.alloc (.cells #[.pointer (some ⟨B, 0, none⟩)] 102)).alloc (.cells #[.int .i64 0, .int .i64 0, .int .i64 0, .int .i64 0, .string ⟨#[]⟩, .slice none 0 0, .slice none 0 0] 26) = W2 := ⟨_, rfl⟩
 obtain ⟨z2, hb2, m0, m1⟩ := boxes2 eW
 have hP2 : Blk W2 w.heap.size [.pointer (some ⟨B, 0, none⟩)] 102 := by rw [← eW]; exact (Blk.new _ _ _).below ((Below.refl _ _).alloc (Nat.le_refl _) _)
 have hE2 : Blk W2 (w.heap.size + 1) zeroC 26 := by rw [← eW]; exact Blk.new2 _ _ _ _ _
 obtain ⟨W3, eW3⟩ : ∃ W3, W2.drew = W3 := ⟨_, rfl⟩
 have hb3 : Below W2.heap.size W2 W3 := by rw [← eW3]; exact (Below.refl _ _).drew
 have g2 : W2.cell? ⟨w.heap.size, 0, none⟩ = some (.pointer (some ⟨B, 0, none⟩)) := hP2.cell 0
 have g3 : W3.cell? ⟨w.heap.size, 0, none⟩ = some (.pointer (some ⟨B, 0, none⟩)) := (hP2.below hb3).cell 0
 have HR3 := Hd ((h.below hb2).below hb3)
 have HI := Hd (into_calls4 HR3.out (Nat.le_of_lt hns))
 have HP3 := Hd (hP2.below hb3)
 have HE3 := Hd (hE2.below hb3)
 have HA3 := Hd (aside_below (B := B) (hb2.trans (hb3.mono hb2.size)))
 have HNB : Hid (w.heap.size ≠ B ∧ w.heap.size + 1 ≠ B) := by have := h.lt; unfold Hid; omega
 have HZ3 : Hid (W3.heap.size = w.heap.size + 2) := by rw [← eW3]; exact z2
 clear h hns hP2 hE2 hb2 hb3 m0 m1 z2
 go_enter_defers Tryz.func167, Tryz.ntmps167
 go_wp2_with (fail)
 refine wp_region_calm_tail 4 (by kernel_rfl) (by kernel_rfl) ?_
 rw [eW3]
 clear eW3 eW g2
 simp only [List.take_succ_cons, List.take_zero, List.drop_succ_cons, List.drop_zero]
 repeat go_big_quiet_step (fail)
 refine wpQuiet_nil ?_
 go_wp2_with (fail)
 refine HI.out.mono ?_
 rintro e w4 ⟨ha4, he4⟩
 rw [if_pos HNS.out] at he4
 obtain ⟨rfl, hr4⟩ := he4
 have HR4 := Hd hr4
 have HA4 := Hd (HA3.out.trans ha4)
 have HP4 := Hd (HP3.out.aside ha4 HNB.out.1)
 have HE4 := Hd (HE3.out.aside ha4 HNB.out.2)
 have HZ4 : Hid (w.heap.size + 1 < w4.heap.size) := HE4.out.lt
 have g4 : w4.cell? ⟨w.heap.size, 0, none⟩ = some (.pointer (some ⟨B, 0, none⟩)) := HP4.out.cell 0
 have HNX := Hd (next_calls hr4)
 generalize tkNext T k = t at *
 obtain ⟨t0, t1, t2⟩ := t
 have hk2 : (t0 == 2) = false := beq_false_of_ne (by simpa using h2)
 have hk1 : (t0 == 1) = true := by simpa using h1
 clear h2 h1
 clear ha4 hr4 g3 HI
 go_wp2_with (fail)
 refine HNX.out.mono ?_
 rintro e w5 ⟨rfl, hb5⟩
 obtain ⟨W6, eW6⟩ : ∃ W6, w5.alloc (.cells #[.int .i64 t0, .int .i64 t1, .string t2] 183) = W6 := ⟨_, rfl⟩
 have hb6 : Below w5.heap.size w5 W6 := by rw [← eW6]; exact (Below.refl _ _).alloc (Nat.le_refl _) _
 have hb56 := hb5.trans (hb6.mono hb5.size)
 have HPS6 : Hid (PS w W6 w5.heap.size B T E tv dp ns (t0, t1, t2) k) := ⟨HR4.out.below hb56, HA4.out.trans (aside_below hb56), HP4.out.below hb56, HE4.out.below hb56, by rw [← eW6]; exact Blk.new _ _ _, by have := HZ4.out; have := hb5.size; omega⟩
 have x0 := HPS6.out.p0
 have y0 := HPS6.out.t0
 clear hb5 hb6 hb56 HR4 HA4 HP4 HE4 HZ4 g4 HNX HP3 HE3 HA3 HR3 HZ3
 have h := eat_no HPS6.out.rdr tTrue HTT.out
 unfold tTrue at h
 have HE := Hd h
 clear h
 go_wp2_with (fail)
 refine HE.out.mono ?_
 rintro e w7 ⟨rfl, ha, hr⟩
 clear HE
 have HPS7 := Hd (HPS6.out.step HBL.out ha hr)
 have x7 := HPS7.out.p0
 have y7 := HPS7.out.t0
 clear ha hr x0 y0 HPS6 
 have h := eat_no HPS7.out.rdr tFalse HTF.out
 unfold tFalse at h
 have HE := Hd h
 clear h
 go_wp2_with (fail)
 refine HE.out.mono ?_
 rintro e w8 ⟨rfl, ha, hr⟩
 clear HE
 have HPS8 := Hd (HPS7.out.step HBL.out ha hr)
 have x8 := HPS8.out.p0
 have y8 := HPS8.out.t0
 clear ha hr x7 y7 HPS7 
 have c1 := HPS8.out.rdr.c1
 have f1 := HPS8.out.rdr.fz 1
 have hw : (k : Int) + 1 ≤ 9223372036854775807 := by have h1 := HL.out; have h2 := HKL.out; omega
 obtain ⟨w9, eK⟩ : ∃ W, w8.setCell ⟨B, 1, none⟩ (.int .i64 ((k : Int) + 1)) = W := ⟨_, rfl⟩
 have ha : Aside1 B w8 w9 := by rw [← eK]; exact aside_set _ _
 have hr : Rdr w9 B T E tv (k + 1) dp (ns + 1) := by rw [← eK]; exact HPS8.out.rdr.setK (k + 1)
 have HPS9 := Hd (HPS8.out.step HBL.out ha hr)
 have x9 := HPS9.out.p0
 have y9 := HPS9.out.t0
 clear ha hr
 have h := is_calls HPS9.out.rdr tLeft
 rw [HLL.out] at h
 unfold tLeft at h
 have HE := Hd h
 clear h
 go_wp2_with (fail)
 refine HE.out.mono ?_
 rintro e w10 ⟨rfl, hb⟩
 have ha := aside_below (B := B) hb
 have hr := HPS9.out.rdr.below hb
 clear HE hb
 have HPS10 := Hd (HPS9.out.step HBL.out ha hr)
 have x10 := HPS10.out.p0
 have y10 := HPS10.out.t0
 clear ha hr x9 y9 x8 y8 c1 f1 HPS9 eK
 go_wp2_with (fail)
 have HS : Hid (∀ W, Aside1 B w10 W → W.cell? ⟨w.heap.size, 0, none⟩ = some (.pointer (some ⟨B, 0, none⟩)) ∧ W.cell? ⟨w5.heap.size, 1, none⟩ = some (.int .i64 t1) ∧ W.cell? ⟨w5.heap.size, 2, none⟩ = some (.string t2)) := fun W ha => ⟨(HPS10.out.ptr.aside ha (by have h1 := HBL.out; omega)).cell 0, (HPS10.out.tok.aside ha (by have h1 := HBL.out; have h2 := HPS10.out.old; omega)).cell 1, (HPS10.out.tok.aside ha (by have h1 := HBL.out; have h2 := HPS10.out.old; omega)).cell 2⟩
 have HD : Hid (Aside1 B w10 w10.drew ∧ Rdr w10.drew B T E tv (k + 1) dp (ns + 1)) := ⟨aside_below (below_drew1 _), HPS10.out.rdr.below (below_drew1 _)⟩
 have h := args_calls HD.out.2 HXX.out
 rw [HQ.out] at h
 have HE := Hd h
 clear h
 refine wp_region_panicAs [{ target := .fn (.func 246) #[.pointer (some ⟨w.heap.size, 0, none⟩)], args := #[] }] (fun ch W => ch = [{ v := stopV c a, recovered := false }] ∧ Aside1 B w10 W ∧ Left W B E tv) (fun ch a9 W hD hR => ?_) ?_
 · obtain ⟨rfl, h1, h2⟩ := hR
   show Leaves Tryz.prog Tryz.f167 a9.tmps _ a9.defers _ W
   rw [hD]
   exact HPS10.out.bad HBL.out h1 h2
 refine wp_region_held_drew (S := fun w' => w'.cell? ⟨w.heap.size, 0, none⟩ = some (.pointer (some ⟨B, 0, none⟩)) ∧ w'.cell? ⟨w5.heap.size, 1, none⟩ = some (.int .i64 t1) ∧ w'.cell? ⟨w5.heap.size, 2, none⟩ = some (.string t2)) (by kernel_rfl) ?_ (fun hHeld => ?_)
 · exact HS.out _ HD.out.1
 refine wpAnyH_take (i := 0) (v := ?v0x1) rfl (by kernel_rfl) (by kernel_rfl) (by kernel_rfl) (fun _ _ _ h => h) (Or.inl ⟨by rfl, ?h0x1⟩) (by assumption) ?r0x1
 case h0x1 => (intro w hSw; (try dsimp only at hSw); first | (go_simp; done) | (go_simp; with_reducible rfl))
 try simp only [Act.put, List.setIfInBounds_toArray, List.set_cons_zero, List.set_cons_succ]
 refine wpAnyH_take (i := 1) (v := ?v1x2) rfl (by kernel_rfl) (by kernel_rfl) (by kernel_rfl) (fun _ _ _ h => h) (Or.inl ⟨by rfl, ?h1x2⟩) (by assumption) ?r1x2
 case h1x2 => (intro w hSw; (try dsimp only at hSw); first | (go_simp; done) | (go_simp; with_reducible rfl))
 try simp only [Act.put, List.setIfInBounds_toArray, List.set_cons_zero, List.set_cons_succ]
 refine wpAnyH_take (i := 2) (v := ?v2x3) rfl (by kernel_rfl) (by kernel_rfl) (by kernel_rfl) (fun _ _ _ h => h) (Or.inl ⟨by rfl, ?h2x3⟩) (by assumption) ?r2x3
 case h2x3 => (intro w hSw; (try dsimp only at hSw); first | (go_simp; done) | (go_simp; with_reducible rfl))
 try simp only [Act.put, List.setIfInBounds_toArray, List.set_cons_zero, List.set_cons_succ]
 refine wpAnyH_take (i := 3) (v := ?v3x4) rfl (by kernel_rfl) (by kernel_rfl) (by kernel_rfl) (fun _ _ _ h => h) (Or.inl ⟨by rfl, ?h3x4⟩) (by assumption) ?r3x4
 case h3x4 => (intro w hSw; (try dsimp only at hSw); first | (go_simp; done) | (go_simp; with_reducible rfl))
 try simp only [Act.put, List.setIfInBounds_toArray, List.set_cons_zero, List.set_cons_succ]
 refine wpAnyH_take (i := 4) (v := ?v4x5) rfl (by kernel_rfl) (by kernel_rfl) (by kernel_rfl) (fun _ _ _ h => h) (Or.inl ⟨by rfl, ?h4x5⟩) (by assumption) ?r4x5
 case h4x5 => (intro w hSw; (try dsimp only at hSw); first | (go_simp; done) | (go_simp; with_reducible rfl))
 try simp only [Act.put, List.setIfInBounds_toArray, List.set_cons_zero, List.set_cons_succ]
 refine wpAnyH_ready (rs := [5]) (by kernel_rfl) (by simp) ?_
 refine AllReadyH.cons rfl (fun K hK => ?_) AllReadyH.nil
 go_simp
 go_at_call 248
 refine HE.out.mono ?_
 rintro e wz ⟨ha, rfl, hlf⟩
 have HZ1 := Hd (HD.out.1.trans ha)
 have HZ2 := Hd hlf
 clear ha hlf
 go_wp2_with (fail)
 exact ⟨rfl, rfl, HZ1.out, HZ2.out⟩
theorem prim_neg_bad (h : Rdr w B T E tv k dp ns) (hns : ns < 12) (h2 : (tkNext T k).1 ≠ 2) (htt : tkIs T k tTrue = false) (htf : tkIs T k tFalse = false) (h1 : (tkNext T k).1 ≠ 1) (htm : tkIs T k tMinus = true) {prim : Nat → Rs Ex} (hx : ReadsEx B T E tv dp (ns + 1) 167 #[.pointer (some ⟨B, 0, none⟩)] prim) {c a : Int} (hq : prim (k + 1) = .bad c a) :
 Calls Tryz.prog 167 #[.pointer (some ⟨B, 0, none⟩)] w (Does w B T E tv dp ns ExIs (.bad c a)) := by
 have hmf := mf_run
 have HL := Hd h.len
 have HBL : Hid (B < w.heap.size) := h.lt
 have HNS := Hd hns
 have H0 := Hd h
 have HTT := Hd htt
 have HTF := Hd htf
 have HTM := Hd htm
 clear htt htf htm
 have HXX := Hd hx
 clear hx
 have HQ := Hd hq
 clear hq
 obtain ⟨W2, eW⟩ : ∃ W2, (w.alloc (.cells #[.pointer (some ⟨B, 0, none⟩)] 102)).alloc (.cells #[.int .i64 0, .int .i64 0, .int .i64 0, .int .i64 0, .string ⟨#[]⟩, .slice none 0 0, .slice none 0 0] 26) = W2 := ⟨_, rfl⟩
 obtain ⟨z2, hb2, m0, m1⟩ := boxes2 eW
 have hP2 : Blk W2 w.heap.size [.pointer (some ⟨B, 0, none⟩)] 102 := by rw [← eW]; exact (Blk.new _ _ _).below ((Below.refl _ _).alloc (Nat.le_refl _) _)
 have hE2 : Blk W2 (w.heap.size + 1) zeroC 26 := by rw [← eW]; exact Blk.new2 _ _ _ _ _
 obtain ⟨W3, eW3⟩ : ∃ W3, W2.drew = W3 := ⟨_, rfl⟩
 have hb3 : Below W2.heap.size W2 W3 := by rw [← eW3]; exact (Below.refl _ _).drew
 have g2 : W2.cell? ⟨w.heap.size, 0, none⟩ = some (.pointer (some ⟨B, 0, none⟩)) := hP2.cell 0
 have g3 : W3.cell? ⟨w.heap.size, 0, none⟩ = some (.pointer (some ⟨B, 0, none⟩)) := (hP2.below hb3).cell 0
 have HR3 := Hd ((h.below hb2).below hb3)
 have HI := Hd (into_calls4 HR3.out (Nat.le_of_lt hns))
 have HP3 := Hd (hP2.below hb3)
 have HE3 := Hd (hE2.below hb3)
 have HA3 := Hd (aside_below (B := B) (hb2.trans (hb3.mono hb2.size)))
 have HNB : Hid (w.heap.size ≠ B ∧ w.heap.size + 1 ≠ B) := by have := h.lt; unfold Hid; omega
 have HZ3 : Hid (W3.heap.size = w.heap.size + 2) := by rw [← eW3]; exact z2
 clear h hns hP2 hE2 hb2 hb3 m0 m1 z2
 go_enter_defers Tryz.func167, Tryz.ntmps167
 go_wp2_with (fail)
 refine wp_region_calm_tail 4 (by kernel_rfl) (by kernel_rfl) ?_
 rw [eW3]
 clear eW3 eW g2
 simp only [List.take_succ_cons, List.take_zero, List.drop_succ_cons, List.drop_zero]
 repeat go_big_quiet_step (fail)
 refine wpQuiet_nil ?_
 go_wp2_with (fail)
 refine HI.out.mono ?_
 rintro e w4 ⟨ha4, he4⟩
 rw [if_pos HNS.out] at he4
 obtain ⟨rfl, hr4⟩ := he4
 have HR4 := Hd hr4
 have HA4 := Hd (HA3.out.trans ha4)
 have HP4 := Hd (HP3.out.aside ha4 HNB.out.1)
 have HE4 := Hd (HE3.out.aside ha4 HNB.out.2)
 have HZ4 : Hid (w.heap.size + 1 < w4.heap.size) := HE4.out.lt
 have g4 : w4.cell? ⟨w.heap.size, 0, none⟩ = some (.pointer (some ⟨B, 0, none⟩)) := HP4.out.cell 0
 have HNX := Hd (next_calls hr4)
 generalize tkNext T k = t at *
 obtain ⟨t0, t1, t2⟩ := t
 have hk2 : (t0 == 2) = false := beq_false_of_ne (by simpa using h2)
 have hk1 : (t0 == 1) = false := beq_false_of_ne (by simpa using h1)
 clear h2 h1
 clear ha4 hr4 g3 HI
 go_wp2_with (fail)
 refine HNX.out.mono ?_
 rintro e w5 ⟨rfl, hb5⟩
 obtain ⟨W6, eW6⟩ : ∃ W6, w5.alloc (.cells #[.int .i64 t0, .int .i64 t1, .string t2] 183) = W6 := ⟨_, rfl⟩
 have hb6 : Below w5.heap.size w5 W6 := by rw [← eW6]; exact (Below.refl _ _).alloc (Nat.le_refl _) _
 have hb56 := hb5.trans (hb6.mono hb5.size)
 have HPS6 : Hid (PS w W6 w5.heap.size B T E tv dp ns (t0, t1, t2) k) := ⟨HR4.out.below hb56, HA4.out.trans (aside_below hb56), HP4.out.below hb56, HE4.out.below hb56, by rw [← eW6]; exact Blk.new _ _ _, by have := HZ4.out; have := hb5.size; omega⟩
 have x0 := HPS6.out.p0
 have y0 := HPS6.out.t0
 clear hb5 hb6 hb56 HR4 HA4 HP4 HE4 HZ4 g4 HNX HP3 HE3 HA3 HR3 HZ3
 have h := eat_no HPS6.out.rdr tTrue HTT.out
 unfold tTrue at h
 have HE := Hd h
 clear h
 go_wp2_with (fail)
 refine HE.out.mono ?_
 rintro e w7 ⟨rfl, ha, hr⟩
 clear HE
 have HPS7 := Hd (HPS6.out.step HBL.out ha hr)
 have x7 := HPS7.out.p0
 have y7 := HPS7.out.t0
 clear ha hr x0 y0 HPS6 
 have h := eat_no HPS7.out.rdr tFalse HTF.out
 unfold tFalse at h
 have HE := Hd h
 clear h
 go_wp2_with (fail)
 refine HE.out.mono ?_
 rintro e w8 ⟨rfl, ha, hr⟩
 clear HE
 have HPS8 := Hd (HPS7.out.step HBL.out ha hr)
 have x8 := HPS8.out.p0
 have y8 := HPS8.out.t0
 clear ha hr x7 y7 HPS7 
 have h := eat_yes HPS8.out.rdr tMinus HTM.out
 unfold tMinus at h
 have HE := Hd h
 clear h
 go_wp2_with (fail)
 refine HE.out.mono ?_
 rintro e w9 ⟨rfl, ha, hr⟩
 clear HE
 have HPS9 := Hd (HPS8.out.step HBL.out ha hr)
 have x9 := HPS9.out.p0
 have y9 := HPS9.out.t0
 clear ha hr x8 y8 HPS8 
 go_wp2_with (fail)
 have HS : Hid (∀ W, Aside1 B w9 W → W.cell? ⟨w.heap.size, 0, none⟩ = some (.pointer (some ⟨B, 0, none⟩)) ∧ W.cell? ⟨w5.heap.size, 1, none⟩ = some (.int .i64 t1) ∧ W.cell? ⟨w5.heap.size, 2, none⟩ = some (.string t2)) := fun W ha => ⟨(HPS9.out.ptr.aside ha (by have h1 := HBL.out; omega)).cell 0, (HPS9.out.tok.aside ha (by have h1 := HBL.out; have h2 := HPS9.out.old; omega)).cell 1, (HPS9.out.tok.aside ha (by have h1 := HBL.out; have h2 := HPS9.out.old; omega)).cell 2⟩
 have HD : Hid (Aside1 B w9 w9.drew ∧ Rdr w9.drew B T E tv (k + 1) dp (ns + 1)) := ⟨aside_below (below_drew1 _), HPS9.out.rdr.below (below_drew1 _)⟩
 have h := HXX.out _ _ HD.out.2
 rw [HQ.out] at h
 have HE := Hd h
 clear h
 refine wp_region_panicAs [{ target := .fn (.func 246) #[.pointer (some ⟨w.heap.size, 0, none⟩)], args := #[] }] (fun ch W => ch = [{ v := stopV c a, recovered := false }] ∧ Aside1 B w9 W ∧ Left W B E tv) (fun ch a9 W hD hR => ?_) ?_
 · obtain ⟨rfl, h1, h2⟩ := hR
   show Leaves Tryz.prog Tryz.f167 a9.tmps _ a9.defers _ W
   rw [hD]
   exact HPS9.out.bad HBL.out h1 h2
 refine wp_region_held_drew (S := fun w' => w'.cell? ⟨w.heap.size, 0, none⟩ = some (.pointer (some ⟨B, 0, none⟩)) ∧ w'.cell? ⟨w5.heap.size, 1, none⟩ = some (.int .i64 t1) ∧ w'.cell? ⟨w5.heap.size, 2, none⟩ = some (.string t2)) (by kernel_rfl) ?_ (fun hHeld => ?_)
 · exact HS.out _ HD.out.1
 refine wpAnyH_take (i := 0) (v := ?v0x1) rfl (by kernel_rfl) (by kernel_rfl) (by kernel_rfl) (fun _ _ _ h => h) (Or.inl ⟨by rfl, ?h0x1⟩) (by assumption) ?r0x1
 case h0x1 => (intro w hSw; (try dsimp only at hSw); first | (go_simp; done) | (go_simp; with_reducible rfl))
 try simp only [Act.put, List.setIfInBounds_toArray, List.set_cons_zero, List.set_cons_succ]
 refine wpAnyH_take (i := 1) (v := ?v1x2) rfl (by kernel_rfl) (by kernel_rfl) (by kernel_rfl) (fun _ _ _ h => h) (Or.inl ⟨by rfl, ?h1x2⟩) (by assumption) ?r1x2
 case h1x2 => (intro w hSw; (try dsimp only at hSw); first | (go_simp; done) | (go_simp; with_reducible rfl))
 try simp only [Act.put, List.setIfInBounds_toArray, List.set_cons_zero, List.set_cons_succ]
 refine wpAnyH_take (i := 2) (v := ?v2x3) rfl (by kernel_rfl) (by kernel_rfl) (by kernel_rfl) (fun _ _ _ h => h) (Or.inl ⟨by rfl, ?h2x3⟩) (by assumption) ?r2x3
 case h2x3 => (intro w hSw; (try dsimp only at hSw); first | (go_simp; done) | (go_simp; with_reducible rfl))
 try simp only [Act.put, List.setIfInBounds_toArray, List.set_cons_zero, List.set_cons_succ]
 refine wpAnyH_take (i := 3) (v := ?v3x4) rfl (by kernel_rfl) (by kernel_rfl) (by kernel_rfl) (fun _ _ _ h => h) (Or.inl ⟨by rfl, ?h3x4⟩) (by assumption) ?r3x4
 case h3x4 => (intro w hSw; (try dsimp only at hSw); first | (go_simp; done) | (go_simp; with_reducible rfl))
 try simp only [Act.put, List.setIfInBounds_toArray, List.set_cons_zero, List.set_cons_succ]
 refine wpAnyH_take (i := 4) (v := ?v4x5) rfl (by kernel_rfl) (by kernel_rfl) (by kernel_rfl) (fun _ _ _ h => h) (Or.inl ⟨by rfl, ?h4x5⟩) (by assumption) ?r4x5
 case h4x5 => (intro w hSw; (try dsimp only at hSw); first | (go_simp; done) | (go_simp; with_reducible rfl))
 try simp only [Act.put, List.setIfInBounds_toArray, List.set_cons_zero, List.set_cons_succ]
 refine wpAnyH_ready (rs := [5]) (by kernel_rfl) (by simp) ?_
 refine AllReadyH.cons rfl (fun K hK => ?_) AllReadyH.nil
 go_simp
 go_at_call 167
 refine HE.out.mono ?_
 rintro e wz ⟨ha, rfl, hlf⟩
 have HZ1 := Hd (HD.out.1.trans ha)
 have HZ2 := Hd hlf
 clear ha hlf
 go_wp2_with (fail)
 exact ⟨rfl, rfl, HZ1.out, HZ2.out⟩
theorem prim_not_bad (h : Rdr w B T E tv k dp ns) (hns : ns < 12) (h2 : (tkNext T k).1 ≠ 2) (htt : tkIs T k tTrue = false) (htf : tkIs T k tFalse = false) (h1 : (tkNext T k).1 ≠ 1) (htm : tkIs T k tMinus = false) (htn : tkIs T k tNot = true) {prim : Nat → Rs Ex} (hx : ReadsEx B T E tv dp (ns + 1) 167 #[.pointer (some ⟨B, 0, none⟩)] prim) {c a : Int} (hq : prim (k + 1) = .bad c a) :
 Calls Tryz.prog 167 #[.pointer (some ⟨B, 0, none⟩)] w (Does w B T E tv dp ns ExIs (.bad c a)) := by
 have hmf := mf_run
 have HL := Hd h.len
 have HBL : Hid (B < w.heap.size) := h.lt
 have HNS := Hd hns
 have H0 := Hd h
 have HTT := Hd htt
 have HTF := Hd htf
 have HTM := Hd htm
 have HTN := Hd htn
 clear htt htf htm htn
 have HXX := Hd hx
 clear hx
 have HQ := Hd hq
 clear hq
 obtain ⟨W2, eW⟩ : ∃ W2, (w.alloc (.cells #[.pointer (some ⟨B, 0, none⟩)] 102)).alloc (.cells #[.int .i64 0, .int .i64 0, .int .i64 0, .int .i64 0, .string ⟨#[]⟩, .slice none 0 0, .slice none 0 0] 26) = W2 := ⟨_, rfl⟩
 obtain ⟨z2, hb2, m0, m1⟩ := boxes2 eW
 have hP2 : Blk W2 w.heap.size [.pointer (some ⟨B, 0, none⟩)] 102 := by rw [← eW]; exact (Blk.new _ _ _).below ((Below.refl _ _).alloc (Nat.le_refl _) _)
 have hE2 : Blk W2 (w.heap.size + 1) zeroC 26 := by rw [← eW]; exact Blk.new2 _ _ _ _ _
 obtain ⟨W3, eW3⟩ : ∃ W3, W2.drew = W3 := ⟨_, rfl⟩
 have hb3 : Below W2.heap.size W2 W3 := by rw [← eW3]; exact (Below.refl _ _).drew
 have g2 : W2.cell? ⟨w.heap.size, 0, none⟩ = some (.pointer (some ⟨B, 0, none⟩)) := hP2.cell 0
 have g3 : W3.cell? ⟨w.heap.size, 0, none⟩ = some (.pointer (some ⟨B, 0, none⟩)) := (hP2.below hb3).cell 0
 have HR3 := Hd ((h.below hb2).below hb3)
 have HI := Hd (into_calls4 HR3.out (Nat.le_of_lt hns))
 have HP3 := Hd (hP2.below hb3)
 have HE3 := Hd (hE2.below hb3)
 have HA3 := Hd (aside_below (B := B) (hb2.trans (hb3.mono hb2.size)))
 have HNB : Hid (w.heap.size ≠ B ∧ w.heap.size + 1 ≠ B) := by have := h.lt; unfold Hid; omega
 have HZ3 : Hid (W3.heap.size = w.heap.size + 2) := by rw [← eW3]; exact z2
 clear h hns hP2 hE2 hb2 hb3 m0 m1 z2
 go_enter_defers Tryz.func167, Tryz.ntmps167
 go_wp2_with (fail)
 refine wp_region_calm_tail 4 (by kernel_rfl) (by kernel_rfl) ?_
 rw [eW3]
 clear eW3 eW g2
 simp only [List.take_succ_cons, List.take_zero, List.drop_succ_cons, List.drop_zero]
 repeat go_big_quiet_step (fail)
 refine wpQuiet_nil ?_
 go_wp2_with (fail)
 refine HI.out.mono ?_
 rintro e w4 ⟨ha4, he4⟩
 rw [if_pos HNS.out] at he4
 obtain ⟨rfl, hr4⟩ := he4
 have HR4 := Hd hr4
 have HA4 := Hd (HA3.out.trans ha4)
 have HP4 := Hd (HP3.out.aside ha4 HNB.out.1)
 have HE4 := Hd (HE3.out.aside ha4 HNB.out.2)
 have HZ4 : Hid (w.heap.size + 1 < w4.heap.size) := HE4.out.lt
 have g4 : w4.cell? ⟨w.heap.size, 0, none⟩ = some (.pointer (some ⟨B, 0, none⟩)) := HP4.out.cell 0
 have HNX := Hd (next_calls hr4)
 generalize tkNext T k = t at *
 obtain ⟨t0, t1, t2⟩ := t
 have hk2 : (t0 == 2) = false := beq_false_of_ne (by simpa using h2)
 have hk1 : (t0 == 1) = false := beq_false_of_ne (by simpa using h1)
 clear h2 h1
 clear ha4 hr4 g3 HI
 go_wp2_with (fail)
 refine HNX.out.mono ?_
 rintro e w5 ⟨rfl, hb5⟩
 obtain ⟨W6, eW6⟩ : ∃ W6, w5.alloc (.cells #[.int .i64 t0, .int .i64 t1, .string t2] 183) = W6 := ⟨_, rfl⟩
 have hb6 : Below w5.heap.size w5 W6 := by rw [← eW6]; exact (Below.refl _ _).alloc (Nat.le_refl _) _
 have hb56 := hb5.trans (hb6.mono hb5.size)
 have HPS6 : Hid (PS w W6 w5.heap.size B T E tv dp ns (t0, t1, t2) k) := ⟨HR4.out.below hb56, HA4.out.trans (aside_below hb56), HP4.out.below hb56, HE4.out.below hb56, by rw [← eW6]; exact Blk.new _ _ _, by have := HZ4.out; have := hb5.size; omega⟩
 have x0 := HPS6.out.p0
 have y0 := HPS6.out.t0
 clear hb5 hb6 hb56 HR4 HA4 HP4 HE4 HZ4 g4 HNX HP3 HE3 HA3 HR3 HZ3
 have h := eat_no HPS6.out.rdr tTrue HTT.out
 unfold tTrue at h
 have HE := Hd h
 clear h
 go_wp2_with (fail)
 refine HE.out.mono ?_
 rintro e w7 ⟨rfl, ha, hr⟩
 clear HE
 have HPS7 := Hd (HPS6.out.step HBL.out ha hr)
 have x7 := HPS7.out.p0
 have y7 := HPS7.out.t0
 clear ha hr x0 y0 HPS6 
 have h := eat_no HPS7.out.rdr tFalse HTF.out
 unfold tFalse at h
 have HE := Hd h
 clear h
 go_wp2_with (fail)
 refine HE.out.mono ?_
 rintro e w8 ⟨rfl, ha, hr⟩
 clear HE
 have HPS8 := Hd (HPS7.out.step HBL.out ha hr)
 have x8 := HPS8.out.p0
 have y8 := HPS8.out.t0
 clear ha hr x7 y7 HPS7 
 have h := eat_no HPS8.out.rdr tMinus HTM.out
 unfold tMinus at h
 have HE := Hd h
 clear h
 go_wp2_with (fail)
 refine HE.out.mono ?_
 rintro e w9 ⟨rfl, ha, hr⟩
 clear HE
 have HPS9 := Hd (HPS8.out.step HBL.out ha hr)
 have x9 := HPS9.out.p0
 have y9 := HPS9.out.t0
 clear ha hr x8 y8 HPS8 
 have h := eat_yes HPS9.out.rdr tNot HTN.out
 unfold tNot at h
 have HE := Hd h
 clear h
 go_wp2_with (fail)
 refine HE.out.mono ?_
 rintro e w10 ⟨rfl, ha, hr⟩
 clear HE
 have HPS10 := Hd (HPS9.out.step HBL.out ha hr)
 have x10 := HPS10.out.p0
 have y10 := HPS10.out.t0
 clear ha hr x9 y9 HPS9 
 go_wp2_with (fail)
 have HS : Hid (∀ W, Aside1 B w10 W → W.cell? ⟨w.heap.size, 0, none⟩ = some (.pointer (some ⟨B, 0, none⟩)) ∧ W.cell? ⟨w5.heap.size, 1, none⟩ = some (.int .i64 t1) ∧ W.cell? ⟨w5.heap.size, 2, none⟩ = some (.string t2)) := fun W ha => ⟨(HPS10.out.ptr.aside ha (by have h1 := HBL.out; omega)).cell 0, (HPS10.out.tok.aside ha (by have h1 := HBL.out; have h2 := HPS10.out.old; omega)).cell 1, (HPS10.out.tok.aside ha (by have h1 := HBL.out; have h2 := HPS10.out.old; omega)).cell 2⟩
 have HD : Hid (Aside1 B w10 w10.drew ∧ Rdr w10.drew B T E tv (k + 1) dp (ns + 1)) := ⟨aside_below (below_drew1 _), HPS10.out.rdr.below (below_drew1 _)⟩
 have h := HXX.out _ _ HD.out.2
 rw [HQ.out] at h
 have HE := Hd h
 clear h
 refine wp_region_panicAs [{ target := .fn (.func 246) #[.pointer (some ⟨w.heap.size, 0, none⟩)], args := #[] }] (fun ch W => ch = [{ v := stopV c a, recovered := false }] ∧ Aside1 B w10 W ∧ Left W B E tv) (fun ch a9 W hD hR => ?_) ?_
 · obtain ⟨rfl, h1, h2⟩ := hR
   show Leaves Tryz.prog Tryz.f167 a9.tmps _ a9.defers _ W
   rw [hD]
   exact HPS10.out.bad HBL.out h1 h2
 refine wp_region_held_drew (S := fun w' => w'.cell? ⟨w.heap.size, 0, none⟩ = some (.pointer (some ⟨B, 0, none⟩)) ∧ w'.cell? ⟨w5.heap.size, 1, none⟩ = some (.int .i64 t1) ∧ w'.cell? ⟨w5.heap.size, 2, none⟩ = some (.string t2)) (by kernel_rfl) ?_ (fun hHeld => ?_)
 · exact HS.out _ HD.out.1
 refine wpAnyH_take (i := 0) (v := ?v0x1) rfl (by kernel_rfl) (by kernel_rfl) (by kernel_rfl) (fun _ _ _ h => h) (Or.inl ⟨by rfl, ?h0x1⟩) (by assumption) ?r0x1
 case h0x1 => (intro w hSw; (try dsimp only at hSw); first | (go_simp; done) | (go_simp; with_reducible rfl))
 try simp only [Act.put, List.setIfInBounds_toArray, List.set_cons_zero, List.set_cons_succ]
 refine wpAnyH_take (i := 1) (v := ?v1x2) rfl (by kernel_rfl) (by kernel_rfl) (by kernel_rfl) (fun _ _ _ h => h) (Or.inl ⟨by rfl, ?h1x2⟩) (by assumption) ?r1x2
 case h1x2 => (intro w hSw; (try dsimp only at hSw); first | (go_simp; done) | (go_simp; with_reducible rfl))
 try simp only [Act.put, List.setIfInBounds_toArray, List.set_cons_zero, List.set_cons_succ]
 refine wpAnyH_take (i := 2) (v := ?v2x3) rfl (by kernel_rfl) (by kernel_rfl) (by kernel_rfl) (fun _ _ _ h => h) (Or.inl ⟨by rfl, ?h2x3⟩) (by assumption) ?r2x3
 case h2x3 => (intro w hSw; (try dsimp only at hSw); first | (go_simp; done) | (go_simp; with_reducible rfl))
 try simp only [Act.put, List.setIfInBounds_toArray, List.set_cons_zero, List.set_cons_succ]
 refine wpAnyH_take (i := 3) (v := ?v3x4) rfl (by kernel_rfl) (by kernel_rfl) (by kernel_rfl) (fun _ _ _ h => h) (Or.inl ⟨by rfl, ?h3x4⟩) (by assumption) ?r3x4
 case h3x4 => (intro w hSw; (try dsimp only at hSw); first | (go_simp; done) | (go_simp; with_reducible rfl))
 try simp only [Act.put, List.setIfInBounds_toArray, List.set_cons_zero, List.set_cons_succ]
 refine wpAnyH_take (i := 4) (v := ?v4x5) rfl (by kernel_rfl) (by kernel_rfl) (by kernel_rfl) (fun _ _ _ h => h) (Or.inl ⟨by rfl, ?h4x5⟩) (by assumption) ?r4x5
 case h4x5 => (intro w hSw; (try dsimp only at hSw); first | (go_simp; done) | (go_simp; with_reducible rfl))
 try simp only [Act.put, List.setIfInBounds_toArray, List.set_cons_zero, List.set_cons_succ]
 refine wpAnyH_ready (rs := [5]) (by kernel_rfl) (by simp) ?_
 refine AllReadyH.cons rfl (fun K hK => ?_) AllReadyH.nil
 go_simp
 go_at_call 167
 refine HE.out.mono ?_
 rintro e wz ⟨ha, rfl, hlf⟩
 have HZ1 := Hd (HD.out.1.trans ha)
 have HZ2 := Hd hlf
 clear ha hlf
 go_wp2_with (fail)
 exact ⟨rfl, rfl, HZ1.out, HZ2.out⟩
theorem prim_call (h : Rdr w B T E tv k dp ns) (hns : ns < 12) (h2 : (tkNext T k).1 ≠ 2) (htt : tkIs T k tTrue = false) (htf : tkIs T k tFalse = false) (h1 : (tkNext T k).1 = 1) {pr : Nat → Rs Ex} (hx : ReadsEx B T E tv dp (ns + 1) 69 #[.pointer (some ⟨B, 0, none⟩), .int .i64 1] pr) (hl : tkIs T (k + 1) tLeft = true) {l : List Ex} {k2 : Nat} (hq : argsQ T E pr (k + 1) = .ok l k2) :
 Calls Tryz.prog 167 #[.pointer (some ⟨B, 0, none⟩)] w (Does w B T E tv dp ns ExIs (.ok (.mk 4 (tkNext T k).2.1 0 0 (tkNext T k).2.2 [] l) k2)) := by
 have hmf := mf_run
 have HL := Hd h.len
 have HBL : Hid (B < w.heap.size) := h.lt
 have HNS := Hd hns
 have H0 := Hd h
 have HTT := Hd htt
 have HTF := Hd htf
 clear htt htf
 have HXX := Hd hx
 clear hx
 have HKL : Hid (k < T.length) := kind_lt (by omega)
 have HLL := Hd hl
 have HQ := Hd hq
 clear hl hq
 obtain ⟨W2, eW⟩ : ∃ W2, (w.alloc (.cells #[.pointer (some ⟨B, 0, none⟩)] 102)).alloc (.cells #[.int .i64 0, .int .i64 0, .int .i64 0, .int .i64 0, .string ⟨#[]⟩, .slice none 0 0, .slice none 0 0] 26) = W2 := ⟨_, rfl⟩
 obtain ⟨z2, hb2, m0, m1⟩ := boxes2 eW
 have hP2 : Blk W2 w.heap.size [.pointer (some ⟨B, 0, none⟩)] 102 := by rw [← eW]; exact (Blk.new _ _ _).below ((Below.refl _ _).alloc (Nat.le_refl _) _)
 have hE2 : Blk W2 (w.heap.size + 1) zeroC 26 := by rw [← eW]; exact Blk.new2 _ _ _ _ _
 obtain ⟨W3, eW3⟩ : ∃ W3, W2.drew = W3 := ⟨_, rfl⟩
 have hb3 : Below W2.heap.size W2 W3 := by rw [← eW3]; exact (Below.refl _ _).drew
 have g2 : W2.cell? ⟨w.heap.size, 0, none⟩ = some (.pointer (some ⟨B, 0, none⟩)) := hP2.cell 0
 have g3 : W3.cell? ⟨w.heap.size, 0, none⟩ = some (.pointer (some ⟨B, 0, none⟩)) := (hP2.below hb3).cell 0
 have HR3 := Hd ((h.below hb2).below hb3)
 have HI := Hd (into_calls4 HR3.out (Nat.le_of_lt hns))
 have HP3 := Hd (hP2.below hb3)
 have HE3 := Hd (hE2.below hb3)
 have HA3 := Hd (aside_below (B := B) (hb2.trans (hb3.mono hb2.size)))
 have HNB : Hid (w.heap.size ≠ B ∧ w.heap.size + 1 ≠ B) := by have := h.lt; unfold Hid; omega
 have HZ3 : Hid (W3.heap.size = w.heap.size + 2) := by rw [← eW3]; exact z2
 clear h hns hP2 hE2 hb2 hb3 m0 m1 z2
 go_enter_defers Tryz.func167, Tryz.ntmps167
 go_wp2_with (fail)
 refine wp_region_calm_tail 4 (by kernel_rfl) (by kernel_rfl) ?_
 rw [eW3]
 clear eW3 eW g2
 simp only [List.take_succ_cons, List.take_zero, List.drop_succ_cons, List.drop_zero]
 repeat go_big_quiet_step (fail)
 refine wpQuiet_nil ?_
 go_wp2_with (fail)
 refine HI.out.mono ?_
 rintro e w4 ⟨ha4, he4⟩
 rw [if_pos HNS.out] at he4
 obtain ⟨rfl, hr4⟩ := he4
 have HR4 := Hd hr4
 have HA4 := Hd (HA3.out.trans ha4)
 have HP4 := Hd (HP3.out.aside ha4 HNB.out.1)
 have HE4 := Hd (HE3.out.aside ha4 HNB.out.2)
 have HZ4 : Hid (w.heap.size + 1 < w4.heap.size) := HE4.out.lt
 have g4 : w4.cell? ⟨w.heap.size, 0, none⟩ = some (.pointer (some ⟨B, 0, none⟩)) := HP4.out.cell 0
 have HNX := Hd (next_calls hr4)
 generalize tkNext T k = t at *
 obtain ⟨t0, t1, t2⟩ := t
 have hk2 : (t0 == 2) = false := beq_false_of_ne (by simpa using h2)
 have hk1 : (t0 == 1) = true := by simpa using h1
 clear h2 h1
 clear ha4 hr4 g3 HI
 go_wp2_with (fail)
 refine HNX.out.mono ?_
 rintro e w5 ⟨rfl, hb5⟩
 obtain ⟨W6, eW6⟩ : ∃ W6, w5.alloc (.cells #[.int .i64 t0, .int .i64 t1, .string t2] 183) = W6 := ⟨_, rfl⟩
 have hb6 : Below w5.heap.size w5 W6 := by rw [← eW6]; exact (Below.refl _ _).alloc (Nat.le_refl _) _
 have hb56 := hb5.trans (hb6.mono hb5.size)
 have HPS6 : Hid (PS w W6 w5.heap.size B T E tv dp ns (t0, t1, t2) k) := ⟨HR4.out.below hb56, HA4.out.trans (aside_below hb56), HP4.out.below hb56, HE4.out.below hb56, by rw [← eW6]; exact Blk.new _ _ _, by have := HZ4.out; have := hb5.size; omega⟩
 have x0 := HPS6.out.p0
 have y0 := HPS6.out.t0
 clear hb5 hb6 hb56 HR4 HA4 HP4 HE4 HZ4 g4 HNX HP3 HE3 HA3 HR3 HZ3
 have h := eat_no HPS6.out.rdr tTrue HTT.out
 unfold tTrue at h
 have HE := Hd h
 clear h
 go_wp2_with (fail)
 refine HE.out.mono ?_
 rintro e w7 ⟨rfl, ha, hr⟩
 clear HE
 have HPS7 := Hd (HPS6.out.step HBL.out ha hr)
 have x7 := HPS7.out.p0
 have y7 := HPS7.out.t0
 clear ha hr x0 y0 HPS6 
 have h := eat_no HPS7.out.rdr tFalse HTF.out
 unfold tFalse at h
 have HE := Hd h
 clear h
 go_wp2_with (fail)
 refine HE.out.mono ?_
 rintro e w8 ⟨rfl, ha, hr⟩
 clear HE
 have HPS8 := Hd (HPS7.out.step HBL.out ha hr)
 have x8 := HPS8.out.p0
 have y8 := HPS8.out.t0
 clear ha hr x7 y7 HPS7 
 have c1 := HPS8.out.rdr.c1
 have f1 := HPS8.out.rdr.fz 1
 have hw : (k : Int) + 1 ≤ 9223372036854775807 := by have h1 := HL.out; have h2 := HKL.out; omega
 obtain ⟨w9, eK⟩ : ∃ W, w8.setCell ⟨B, 1, none⟩ (.int .i64 ((k : Int) + 1)) = W := ⟨_, rfl⟩
 have ha : Aside1 B w8 w9 := by rw [← eK]; exact aside_set _ _
 have hr : Rdr w9 B T E tv (k + 1) dp (ns + 1) := by rw [← eK]; exact HPS8.out.rdr.setK (k + 1)
 have HPS9 := Hd (HPS8.out.step HBL.out ha hr)
 have x9 := HPS9.out.p0
 have y9 := HPS9.out.t0
 clear ha hr
 have h := is_calls HPS9.out.rdr tLeft
 rw [HLL.out] at h
 unfold tLeft at h
 have HE := Hd h
 clear h
 go_wp2_with (fail)
 refine HE.out.mono ?_
 rintro e w10 ⟨rfl, hb⟩
 have ha := aside_below (B := B) hb
 have hr := HPS9.out.rdr.below hb
 clear HE hb
 have HPS10 := Hd (HPS9.out.step HBL.out ha hr)
 have x10 := HPS10.out.p0
 have y10 := HPS10.out.t0
 clear ha hr x9 y9 x8 y8 c1 f1 HPS9 eK
 go_wp2_with (fail)
 have HS : Hid (∀ W, Aside1 B w10 W → W.cell? ⟨w.heap.size, 0, none⟩ = some (.pointer (some ⟨B, 0, none⟩)) ∧ W.cell? ⟨w5.heap.size, 1, none⟩ = some (.int .i64 t1) ∧ W.cell? ⟨w5.heap.size, 2, none⟩ = some (.string t2)) := fun W ha => ⟨(HPS10.out.ptr.aside ha (by have h1 := HBL.out; omega)).cell 0, (HPS10.out.tok.aside ha (by have h1 := HBL.out; have h2 := HPS10.out.old; omega)).cell 1, (HPS10.out.tok.aside ha (by have h1 := HBL.out; have h2 := HPS10.out.old; omega)).cell 2⟩
 have HD : Hid (Aside1 B w10 w10.drew ∧ Rdr w10.drew B T E tv (k + 1) dp (ns + 1)) := ⟨aside_below (below_drew1 _), HPS10.out.rdr.below (below_drew1 _)⟩
 have h := args_calls HD.out.2 HXX.out
 rw [HQ.out] at h
 have HE := Hd h
 clear h
 refine wp_region_noPanic ?_
 refine wp_region_held_drew (S := fun w' => w'.cell? ⟨w.heap.size, 0, none⟩ = some (.pointer (some ⟨B, 0, none⟩)) ∧ w'.cell? ⟨w5.heap.size, 1, none⟩ = some (.int .i64 t1) ∧ w'.cell? ⟨w5.heap.size, 2, none⟩ = some (.string t2)) (by kernel_rfl) ?_ (fun hHeld => ?_)
 · exact HS.out _ HD.out.1
 refine wpAnyH_take (i := 0) (v := ?v0x1) rfl (by kernel_rfl) (by kernel_rfl) (by kernel_rfl) (fun _ _ _ h => h) (Or.inl ⟨by rfl, ?h0x1⟩) (by assumption) ?r0x1
 case h0x1 => (intro w hSw; (try dsimp only at hSw); first | (go_simp; done) | (go_simp; with_reducible rfl))
 try simp only [Act.put, List.setIfInBounds_toArray, List.set_cons_zero, List.set_cons_succ]
 refine wpAnyH_take (i := 1) (v := ?v1x2) rfl (by kernel_rfl) (by kernel_rfl) (by kernel_rfl) (fun _ _ _ h => h) (Or.inl ⟨by rfl, ?h1x2⟩) (by assumption) ?r1x2
 case h1x2 => (intro w hSw; (try dsimp only at hSw); first | (go_simp; done) | (go_simp; with_reducible rfl))
 try simp only [Act.put, List.setIfInBounds_toArray, List.set_cons_zero, List.set_cons_succ]
 refine wpAnyH_take (i := 2) (v := ?v2x3) rfl (by kernel_rfl) (by kernel_rfl) (by kernel_rfl) (fun _ _ _ h => h) (Or.inl ⟨by rfl, ?h2x3⟩) (by assumption) ?r2x3
 case h2x3 => (intro w hSw; (try dsimp only at hSw); first | (go_simp; done) | (go_simp; with_reducible rfl))
 try simp only [Act.put, List.setIfInBounds_toArray, List.set_cons_zero, List.set_cons_succ]
 refine wpAnyH_take (i := 3) (v := ?v3x4) rfl (by kernel_rfl) (by kernel_rfl) (by kernel_rfl) (fun _ _ _ h => h) (Or.inl ⟨by rfl, ?h3x4⟩) (by assumption) ?r3x4
 case h3x4 => (intro w hSw; (try dsimp only at hSw); first | (go_simp; done) | (go_simp; with_reducible rfl))
 try simp only [Act.put, List.setIfInBounds_toArray, List.set_cons_zero, List.set_cons_succ]
 refine wpAnyH_take (i := 4) (v := ?v4x5) rfl (by kernel_rfl) (by kernel_rfl) (by kernel_rfl) (fun _ _ _ h => h) (Or.inl ⟨by rfl, ?h4x5⟩) (by assumption) ?r4x5
 case h4x5 => (intro w hSw; (try dsimp only at hSw); first | (go_simp; done) | (go_simp; with_reducible rfl))
 try simp only [Act.put, List.setIfInBounds_toArray, List.set_cons_zero, List.set_cons_succ]
 refine wpAnyH_ready (rs := [5]) (by kernel_rfl) (by simp) ?_
 refine AllReadyH.cons rfl (fun K hK => ?_) AllReadyH.nil
 go_simp
 go_at_call 248
 refine HE.out.mono ?_
 rintro e wf ⟨ha, va, rfl, hr, hs⟩
 have HSX : Hid (Exs (since (w.heap.size + 2) wf) l va) := SliceOf.stays exE_stays (since_mono _ (by have h1 := HPS10.out.res.lt; have h3 : w10.drew.heap.size = w10.heap.size := rfl; omega)) hs
 obtain ⟨pa, ca, rfl, _⟩ := hs
 have HZ1 := Hd (HD.out.1.trans ha)
 have HPSK := Hd (HPS10.out.step HBL.out HZ1.out hr)
 have HRES : Hid (ExIs (since (w.heap.size + 2) wf) (.mk 4 t1 0 0 t2 [] l) (.agg #[.int .i64 4, .int .i64 t1, .int .i64 0, .int .i64 0, .string t2, .slice none 0 0, .slice pa l.length ca])) := ⟨_, _, rfl, ⟨none, 0, rfl, Nat.le_refl _, by unfold maxLen; decide, .inl rfl⟩, HSX.out⟩
 obtain ⟨e0, e1, e2, e3, e4, e5, e6⟩ := HPSK.out.res.cells7
 obtain ⟨f0, f1, f2, f3, f4, f5, f6⟩ := HPSK.out.res.fz7
 clear ha hr
 have HSE : Hid ((sev wf (w.heap.size + 1) (.int .i64 4) (.int .i64 t1) (.int .i64 0) (.int .i64 0) (.string t2) (.slice none 0 0) (.slice pa l.length ca)).cell? ⟨w.heap.size, 0, none⟩ = some (.pointer (some ⟨B, 0, none⟩)) ∧ (sev wf (w.heap.size + 1) (.int .i64 4) (.int .i64 t1) (.int .i64 0) (.int .i64 0) (.string t2) (.slice none 0 0) (.slice pa l.length ca)).cell? ⟨w5.heap.size, 1, none⟩ = some (.int .i64 t1) ∧ (sev wf (w.heap.size + 1) (.int .i64 4) (.int .i64 t1) (.int .i64 0) (.int .i64 0) (.string t2) (.slice none 0 0) (.slice pa l.length ca)).cell? ⟨w5.heap.size, 2, none⟩ = some (.string t2)) := sev_keeps HPSK.out
 go_wp2_with (fail)
 refine hK.out _ _ ?_ (fun hHeld => ?_)
 · exact HS.out _ HZ1.out
 clear hK K
 try simp only [Act.put, List.setIfInBounds_toArray, List.set_cons_zero, List.set_cons_succ]
 refine wpAnyH_take (i := 6) (v := ?v6x6) rfl (by kernel_rfl) (by kernel_rfl) (by kernel_rfl) (fun _ _ _ h => h) (Or.inl ⟨by rfl, ?h6x6⟩) (by assumption) ?r6x6
 case h6x6 => (intro w hSw; (try dsimp only at hSw); first | (go_simp; done) | (go_simp; with_reducible rfl))
 try simp only [Act.put, List.setIfInBounds_toArray, List.set_cons_zero, List.set_cons_succ]
 refine wpAnyH_ready (rs := [7]) (by kernel_rfl) (by simp) ?_
 refine AllReadyH.cons rfl (fun K hK => ?_) AllReadyH.nil
 go_simp
 refine hK.out _ _ ?_ (fun hHeld => ?_)
 · exact HSE.out
 clear hK K
 try simp only [Act.put, List.setIfInBounds_toArray, List.set_cons_zero, List.set_cons_succ]
 refine wpAnyH_done (by kernel_rfl) ?_ _
 refine NoPanic.normal ?_
 go_wp2_with (fail)
 exact HPSK.out.ret HNS.out H0.out rfl HRES.out
theorem prim_neg (h : Rdr w B T E tv k dp ns) (hns : ns < 12) (h2 : (tkNext T k).1 ≠ 2) (htt : tkIs T k tTrue = false) (htf : tkIs T k tFalse = false) (h1 : (tkNext T k).1 ≠ 1) (htm : tkIs T k tMinus = true) {prim : Nat → Rs Ex} (hx : ReadsEx B T E tv dp (ns + 1) 167 #[.pointer (some ⟨B, 0, none⟩)] prim) {x : Ex} {k2 : Nat} (hq : prim (k + 1) = .ok x k2) :
 Calls Tryz.prog 167 #[.pointer (some ⟨B, 0, none⟩)] w (Does w B T E tv dp ns ExIs (.ok (.mk 3 (tkNext T k).2.1 0 0 (tkNext T k).2.2 [] [x]) k2)) := by
 have hmf := mf_run
 have HL := Hd h.len
 have HBL : Hid (B < w.heap.size) := h.lt
 have HNS := Hd hns
 have H0 := Hd h
 have HTT := Hd htt
 have HTF := Hd htf
 have HTM := Hd htm
 clear htt htf htm
 have HXX := Hd hx
 clear hx
 have HQ := Hd hq
 clear hq
 obtain ⟨W2, eW⟩ : ∃ W2, (w.alloc (.cells #[.pointer (some ⟨B, 0, none⟩)] 102)).alloc (.cells #[.int .i64 0, .int .i64 0, .int .i64 0, .int .i64 0, .string ⟨#[]⟩, .slice none 0 0, .slice none 0 0] 26) = W2 := ⟨_, rfl⟩
 obtain ⟨z2, hb2, m0, m1⟩ := boxes2 eW
 have hP2 : Blk W2 w.heap.size [.pointer (some ⟨B, 0, none⟩)] 102 := by rw [← eW]; exact (Blk.new _ _ _).below ((Below.refl _ _).alloc (Nat.le_refl _) _)
 have hE2 : Blk W2 (w.heap.size + 1) zeroC 26 := by rw [← eW]; exact Blk.new2 _ _ _ _ _
 obtain ⟨W3, eW3⟩ : ∃ W3, W2.drew = W3 := ⟨_, rfl⟩
 have hb3 : Below W2.heap.size W2 W3 := by rw [← eW3]; exact (Below.refl _ _).drew
 have g2 : W2.cell? ⟨w.heap.size, 0, none⟩ = some (.pointer (some ⟨B, 0, none⟩)) := hP2.cell 0
 have g3 : W3.cell? ⟨w.heap.size, 0, none⟩ = some (.pointer (some ⟨B, 0, none⟩)) := (hP2.below hb3).cell 0
 have HR3 := Hd ((h.below hb2).below hb3)
 have HI := Hd (into_calls4 HR3.out (Nat.le_of_lt hns))
 have HP3 := Hd (hP2.below hb3)
 have HE3 := Hd (hE2.below hb3)
 have HA3 := Hd (aside_below (B := B) (hb2.trans (hb3.mono hb2.size)))
 have HNB : Hid (w.heap.size ≠ B ∧ w.heap.size + 1 ≠ B) := by have := h.lt; unfold Hid; omega
 have HZ3 : Hid (W3.heap.size = w.heap.size + 2) := by rw [← eW3]; exact z2
 clear h hns hP2 hE2 hb2 hb3 m0 m1 z2
 go_enter_defers Tryz.func167, Tryz.ntmps167
 go_wp2_with (fail)
 refine wp_region_calm_tail 4 (by kernel_rfl) (by kernel_rfl) ?_
 rw [eW3]
 clear eW3 eW g2
 simp only [List.take_succ_cons, List.take_zero, List.drop_succ_cons, List.drop_zero]
 repeat go_big_quiet_step (fail)
 refine wpQuiet_nil ?_
 go_wp2_with (fail)
 refine HI.out.mono ?_
 rintro e w4 ⟨ha4, he4⟩
 rw [if_pos HNS.out] at he4
 obtain ⟨rfl, hr4⟩ := he4
 have HR4 := Hd hr4
 have HA4 := Hd (HA3.out.trans ha4)
 have HP4 := Hd (HP3.out.aside ha4 HNB.out.1)
 have HE4 := Hd (HE3.out.aside ha4 HNB.out.2)
 have HZ4 : Hid (w.heap.size + 1 < w4.heap.size) := HE4.out.lt
 have g4 : w4.cell? ⟨w.heap.size, 0, none⟩ = some (.pointer (some ⟨B, 0, none⟩)) := HP4.out.cell 0
 have HNX := Hd (next_calls hr4)
 generalize tkNext T k = t at *
 obtain ⟨t0, t1, t2⟩ := t
 have hk2 : (t0 == 2) = false := beq_false_of_ne (by simpa using h2)
 have hk1 : (t0 == 1) = false := beq_false_of_ne (by simpa using h1)
 clear h2 h1
 clear ha4 hr4 g3 HI
 go_wp2_with (fail)
 refine HNX.out.mono ?_
 rintro e w5 ⟨rfl, hb5⟩
 obtain ⟨W6, eW6⟩ : ∃ W6, w5.alloc (.cells #[.int .i64 t0, .int .i64 t1, .string t2] 183) = W6 := ⟨_, rfl⟩
 have hb6 : Below w5.heap.size w5 W6 := by rw [← eW6]; exact (Below.refl _ _).alloc (Nat.le_refl _) _
 have hb56 := hb5.trans (hb6.mono hb5.size)
 have HPS6 : Hid (PS w W6 w5.heap.size B T E tv dp ns (t0, t1, t2) k) := ⟨HR4.out.below hb56, HA4.out.trans (aside_below hb56), HP4.out.below hb56, HE4.out.below hb56, by rw [← eW6]; exact Blk.new _ _ _, by have := HZ4.out; have := hb5.size; omega⟩
 have x0 := HPS6.out.p0
 have y0 := HPS6.out.t0
 clear hb5 hb6 hb56 HR4 HA4 HP4 HE4 HZ4 g4 HNX HP3 HE3 HA3 HR3 HZ3
 have h := eat_no HPS6.out.rdr tTrue HTT.out
 unfold tTrue at h
 have HE := Hd h
 clear h
 go_wp2_with (fail)
 refine HE.out.mono ?_
 rintro e w7 ⟨rfl, ha, hr⟩
 clear HE
 have HPS7 := Hd (HPS6.out.step HBL.out ha hr)
 have x7 := HPS7.out.p0
 have y7 := HPS7.out.t0
 clear ha hr x0 y0 HPS6 
 have h := eat_no HPS7.out.rdr tFalse HTF.out
 unfold tFalse at h
 have HE := Hd h
 clear h
 go_wp2_with (fail)
 refine HE.out.mono ?_
 rintro e w8 ⟨rfl, ha, hr⟩
 clear HE
 have HPS8 := Hd (HPS7.out.step HBL.out ha hr)
 have x8 := HPS8.out.p0
 have y8 := HPS8.out.t0
 clear ha hr x7 y7 HPS7 
 have h := eat_yes HPS8.out.rdr tMinus HTM.out
 unfold tMinus at h
 have HE := Hd h
 clear h
 go_wp2_with (fail)
 refine HE.out.mono ?_
 rintro e w9 ⟨rfl, ha, hr⟩
 clear HE
 have HPS9 := Hd (HPS8.out.step HBL.out ha hr)
 have x9 := HPS9.out.p0
 have y9 := HPS9.out.t0
 clear ha hr x8 y8 HPS8 
 go_wp2_with (fail)
 have HS : Hid (∀ W, Aside1 B w9 W → W.cell? ⟨w.heap.size, 0, none⟩ = some (.pointer (some ⟨B, 0, none⟩)) ∧ W.cell? ⟨w5.heap.size, 1, none⟩ = some (.int .i64 t1) ∧ W.cell? ⟨w5.heap.size, 2, none⟩ = some (.string t2)) := fun W ha => ⟨(HPS9.out.ptr.aside ha (by have h1 := HBL.out; omega)).cell 0, (HPS9.out.tok.aside ha (by have h1 := HBL.out; have h2 := HPS9.out.old; omega)).cell 1, (HPS9.out.tok.aside ha (by have h1 := HBL.out; have h2 := HPS9.out.old; omega)).cell 2⟩
 have HD : Hid (Aside1 B w9 w9.drew ∧ Rdr w9.drew B T E tv (k + 1) dp (ns + 1)) := ⟨aside_below (below_drew1 _), HPS9.out.rdr.below (below_drew1 _)⟩
 have h := HXX.out _ _ HD.out.2
 rw [HQ.out] at h
 have HE := Hd h
 clear h
 refine wp_region_noPanic ?_
 refine wp_region_held_drew (S := fun w' => w'.cell? ⟨w.heap.size, 0, none⟩ = some (.pointer (some ⟨B, 0, none⟩)) ∧ w'.cell? ⟨w5.heap.size, 1, none⟩ = some (.int .i64 t1) ∧ w'.cell? ⟨w5.heap.size, 2, none⟩ = some (.string t2)) (by kernel_rfl) ?_ (fun hHeld => ?_)
 · exact HS.out _ HD.out.1
 refine wpAnyH_take (i := 0) (v := ?v0x1) rfl (by kernel_rfl) (by kernel_rfl) (by kernel_rfl) (fun _ _ _ h => h) (Or.inl ⟨by rfl, ?h0x1⟩) (by assumption) ?r0x1
 case h0x1 => (intro w hSw; (try dsimp only at hSw); first | (go_simp; done) | (go_simp; with_reducible rfl))
 try simp only [Act.put, List.setIfInBounds_toArray, List.set_cons_zero, List.set_cons_succ]
 refine wpAnyH_take (i := 1) (v := ?v1x2) rfl (by kernel_rfl) (by kernel_rfl) (by kernel_rfl) (fun _ _ _ h => h) (Or.inl ⟨by rfl, ?h1x2⟩) (by assumption) ?r1x2
 case h1x2 => (intro w hSw; (try dsimp only at hSw); first | (go_simp; done) | (go_simp; with_reducible rfl))
 try simp only [Act.put, List.setIfInBounds_toArray, List.set_cons_zero, List.set_cons_succ]
 refine wpAnyH_take (i := 2) (v := ?v2x3) rfl (by kernel_rfl) (by kernel_rfl) (by kernel_rfl) (fun _ _ _ h => h) (Or.inl ⟨by rfl, ?h2x3⟩) (by assumption) ?r2x3
 case h2x3 => (intro w hSw; (try dsimp only at hSw); first | (go_simp; done) | (go_simp; with_reducible rfl))
 try simp only [Act.put, List.setIfInBounds_toArray, List.set_cons_zero, List.set_cons_succ]
 refine wpAnyH_take (i := 3) (v := ?v3x4) rfl (by kernel_rfl) (by kernel_rfl) (by kernel_rfl) (fun _ _ _ h => h) (Or.inl ⟨by rfl, ?h3x4⟩) (by assumption) ?r3x4
 case h3x4 => (intro w hSw; (try dsimp only at hSw); first | (go_simp; done) | (go_simp; with_reducible rfl))
 try simp only [Act.put, List.setIfInBounds_toArray, List.set_cons_zero, List.set_cons_succ]
 refine wpAnyH_take (i := 4) (v := ?v4x5) rfl (by kernel_rfl) (by kernel_rfl) (by kernel_rfl) (fun _ _ _ h => h) (Or.inl ⟨by rfl, ?h4x5⟩) (by assumption) ?r4x5
 case h4x5 => (intro w hSw; (try dsimp only at hSw); first | (go_simp; done) | (go_simp; with_reducible rfl))
 try simp only [Act.put, List.setIfInBounds_toArray, List.set_cons_zero, List.set_cons_succ]
 refine wpAnyH_ready (rs := [5]) (by kernel_rfl) (by simp) ?_
 refine AllReadyH.cons rfl (fun K hK => ?_) AllReadyH.nil
 go_simp
 go_at_call 167
 refine HE.out.mono ?_
 rintro e wj ⟨ha, vx, rfl, hr, hx⟩
 have HXF := Hd (hx.stays (since_mono _ (show w.heap.size + 2 ≤ w9.drew.heap.size from by have h1 := HPS9.out.res.lt; have h3 : w9.drew.heap.size = w9.heap.size := rfl; omega)))
 obtain ⟨vl, va, rfl, hvl, hva⟩ := hx
 obtain ⟨pl, cl, rfl, _⟩ := hvl
 obtain ⟨pa, ca, rfl, _⟩ := hva
 have HZ0 := Hd (HD.out.1.trans ha)
 have HPSJ := Hd (HPS9.out.step HBL.out HZ0.out hr)
 obtain ⟨wf, eW⟩ : ∃ W, wj.alloc (.cells #[.int .i64 x.kind, .int .i64 x.at_, .int .i64 x.num, .int .i64 x.ty, .string x.name, .slice pl x.lab.length cl, .slice pa x.kids.length ca] 26) = W := ⟨_, rfl⟩
 have hbk : Below wj.heap.size wj wf := by rw [← eW]; exact (Below.refl _ _).alloc (Nat.le_refl _) _
 have HZ1 := Hd (HZ0.out.trans (aside_below hbk))
 have HPSK := Hd (HPSJ.out.below HBL.out hbk)
 have hBK : Blk wf wj.heap.size (exC x (.slice pl x.lab.length cl) (.slice pa x.kids.length ca)) 26 := by rw [← eW]; exact Blk.new _ _ _
 have hks : Keeps (since (w.heap.size + 2) wj) (since (w.heap.size + 2) wf) := keeps_hide hbk.size fun b hb hp => ⟨hp, hbk.block b hb⟩
 have HRES : Hid (ExIs (since (w.heap.size + 2) wf) (.mk 3 t1 0 0 t2 [] [x]) (.agg #[.int .i64 3, .int .i64 t1, .int .i64 0, .int .i64 0, .string t2, .slice none 0 0, .slice (some ⟨wj.heap.size, 0, none⟩) 1 1])) := ⟨_, _, rfl, ⟨none, 0, rfl, Nat.le_refl _, by unfold maxLen; decide, .inl rfl⟩, exs_one (HXF.out.stays hks) hBK (by have h1 := HPSJ.out.res.lt; omega)⟩
 clear hbk hBK hks
 obtain ⟨e0, e1, e2, e3, e4, e5, e6⟩ := HPSK.out.res.cells7
 obtain ⟨f0, f1, f2, f3, f4, f5, f6⟩ := HPSK.out.res.fz7
 clear ha hr
 have HSE : Hid ((sev wf (w.heap.size + 1) (.int .i64 3) (.int .i64 t1) (.int .i64 0) (.int .i64 0) (.string t2) (.slice none 0 0) (.slice (some ⟨wj.heap.size, 0, none⟩) 1 1)).cell? ⟨w.heap.size, 0, none⟩ = some (.pointer (some ⟨B, 0, none⟩)) ∧ (sev wf (w.heap.size + 1) (.int .i64 3) (.int .i64 t1) (.int .i64 0) (.int .i64 0) (.string t2) (.slice none 0 0) (.slice (some ⟨wj.heap.size, 0, none⟩) 1 1)).cell? ⟨w5.heap.size, 1, none⟩ = some (.int .i64 t1) ∧ (sev wf (w.heap.size + 1) (.int .i64 3) (.int .i64 t1) (.int .i64 0) (.int .i64 0) (.string t2) (.slice none 0 0) (.slice (some ⟨wj.heap.size, 0, none⟩) 1 1)).cell? ⟨w5.heap.size, 2, none⟩ = some (.string t2)) := sev_keeps HPSK.out
 go_wp2_with (fail)
 refine hK.out _ _ ?_ (fun hHeld => ?_)
 · exact HS.out _ HZ0.out
 clear hK K
 try simp only [Act.put, List.setIfInBounds_toArray, List.set_cons_zero, List.set_cons_succ]
 refine wpAnyH_ready (rs := [6]) (by kernel_rfl) (by simp) ?_
 refine AllReadyH.cons rfl (fun K hK => ?_) AllReadyH.nil
 go_simp
 refine hK.out _ _ ?_ (fun hHeld => ?_)
 · exact HS.out _ HZ1.out
 clear hK K
 try simp only [Act.put, List.setIfInBounds_toArray, List.set_cons_zero, List.set_cons_succ]
 refine wpAnyH_take (i := 7) (v := ?v7x6) rfl (by kernel_rfl) (by kernel_rfl) (by kernel_rfl) (fun _ _ _ h => h) (Or.inl ⟨by rfl, ?h7x6⟩) (by assumption) ?r7x6
 case h7x6 => (intro w hSw; (try dsimp only at hSw); first | (go_simp; done) | (go_simp; with_reducible rfl))
 try simp only [Act.put, List.setIfInBounds_toArray, List.set_cons_zero, List.set_cons_succ]
 refine wpAnyH_ready (rs := [8]) (by kernel_rfl) (by simp) ?_
 refine AllReadyH.cons rfl (fun K hK => ?_) AllReadyH.nil
 go_simp
 refine hK.out _ _ ?_ (fun hHeld => ?_)
 · exact HSE.out
 clear hK K
 try simp only [Act.put, List.setIfInBounds_toArray, List.set_cons_zero, List.set_cons_succ]
 refine wpAnyH_done (by kernel_rfl) ?_ _
 refine NoPanic.normal ?_
 go_wp2_with (fail)
 exact HPSK.out.ret HNS.out H0.out rfl HRES.out
theorem prim_not (h : Rdr w B T E tv k dp ns) (hns : ns < 12) (h2 : (tkNext T k).1 ≠ 2) (htt : tkIs T k tTrue = false) (htf : tkIs T k tFalse = false) (h1 : (tkNext T k).1 ≠ 1) (htm : tkIs T k tMinus = false) (htn : tkIs T k tNot = true) {prim : Nat → Rs Ex} (hx : ReadsEx B T E tv dp (ns + 1) 167 #[.pointer (some ⟨B, 0, none⟩)] prim) {x : Ex} {k2 : Nat} (hq : prim (k + 1) = .ok x k2) :
 Calls Tryz.prog 167 #[.pointer (some ⟨B, 0, none⟩)] w (Does w B T E tv dp ns ExIs (.ok (.mk 3 (tkNext T k).2.1 0 0 (tkNext T k).2.2 [] [x]) k2)) := by
 have hmf := mf_run
 have HL := Hd h.len
 have HBL : Hid (B < w.heap.size) := h.lt
 have HNS := Hd hns
 have H0 := Hd h
 have HTT := Hd htt
 have HTF := Hd htf
 have HTM := Hd htm
 have HTN := Hd htn
 clear htt htf htm htn
 have HXX := Hd hx
 clear hx
 have HQ := Hd hq
 clear hq
 obtain ⟨W2, eW⟩ : ∃ W2, (w.alloc (.cells #[.pointer (some ⟨B, 0, none⟩)] 102)).alloc (.cells #[.int .i64 0, .int .i64 0, .int .i64 0, .int .i64 0, .string ⟨#[]⟩, .slice none 0 0, .slice none 0 0] 26) = W2 := ⟨_, rfl⟩
 obtain ⟨z2, hb2, m0, m1⟩ := boxes2 eW
 have hP2 : Blk W2 w.heap.size [.pointer (some ⟨B, 0, none⟩)] 102 := by rw [← eW]; exact (Blk.new _ _ _).below ((Below.refl _ _).alloc (Nat.le_refl _) _)
 have hE2 : Blk W2 (w.heap.size + 1) zeroC 26 := by rw [← eW]; exact Blk.new2 _ _ _ _ _
 obtain ⟨W3, eW3⟩ : ∃ W3, W2.drew = W3 := ⟨_, rfl⟩
 have hb3 : Below W2.heap.size W2 W3 := by rw [← eW3]; exact (Below.refl _ _).drew
 have g2 : W2.cell? ⟨w.heap.size, 0, none⟩ = some (.pointer (some ⟨B, 0, none⟩)) := hP2.cell 0
 have g3 : W3.cell? ⟨w.heap.size, 0, none⟩ = some (.pointer (some ⟨B, 0, none⟩)) := (hP2.below hb3).cell 0
 have HR3 := Hd ((h.below hb2).below hb3)
 have HI := Hd (into_calls4 HR3.out (Nat.le_of_lt hns))
 have HP3 := Hd (hP2.below hb3)
 have HE3 := Hd (hE2.below hb3)
 have HA3 := Hd (aside_below (B := B) (hb2.trans (hb3.mono hb2.size)))
 have HNB : Hid (w.heap.size ≠ B ∧ w.heap.size + 1 ≠ B) := by have := h.lt; unfold Hid; omega
 have HZ3 : Hid (W3.heap.size = w.heap.size + 2) := by rw [← eW3]; exact z2
 clear h hns hP2 hE2 hb2 hb3 m0 m1 z2
 go_enter_defers Tryz.func167, Tryz.ntmps167
 go_wp2_with (fail)
 refine wp_region_calm_tail 4 (by kernel_rfl) (by kernel_rfl) ?_
 rw [eW3]
 clear eW3 eW g2
 simp only [List.take_succ_cons, List.take_zero, List.drop_succ_cons, List.drop_zero]
 repeat go_big_quiet_step (fail)
 refine wpQuiet_nil ?_
 go_wp2_with (fail)
 refine HI.out.mono ?_
 rintro e w4 ⟨ha4, he4⟩
 rw [if_pos HNS.out] at he4
 obtain ⟨rfl, hr4⟩ := he4
 have HR4 := Hd hr4
 have HA4 := Hd (HA3.out.trans ha4)
 have HP4 := Hd (HP3.out.aside ha4 HNB.out.1)
 have HE4 := Hd (HE3.out.aside ha4 HNB.out.2)
 have HZ4 : Hid (w.heap.size + 1 < w4.heap.size) := HE4.out.lt
 have g4 : w4.cell? ⟨w.heap.size, 0, none⟩ = some (.pointer (some ⟨B, 0, none⟩)) := HP4.out.cell 0
 have HNX := Hd (next_calls hr4)
 generalize tkNext T k = t at *
 obtain ⟨t0, t1, t2⟩ := t
 have hk2 : (t0 == 2) = false := beq_false_of_ne (by simpa using h2)
 have hk1 : (t0 == 1) = false := beq_false_of_ne (by simpa using h1)
 clear h2 h1
 clear ha4 hr4 g3 HI
 go_wp2_with (fail)
 refine HNX.out.mono ?_
 rintro e w5 ⟨rfl, hb5⟩
 obtain ⟨W6, eW6⟩ : ∃ W6, w5.alloc (.cells #[.int .i64 t0, .int .i64 t1, .string t2] 183) = W6 := ⟨_, rfl⟩
 have hb6 : Below w5.heap.size w5 W6 := by rw [← eW6]; exact (Below.refl _ _).alloc (Nat.le_refl _) _
 have hb56 := hb5.trans (hb6.mono hb5.size)
 have HPS6 : Hid (PS w W6 w5.heap.size B T E tv dp ns (t0, t1, t2) k) := ⟨HR4.out.below hb56, HA4.out.trans (aside_below hb56), HP4.out.below hb56, HE4.out.below hb56, by rw [← eW6]; exact Blk.new _ _ _, by have := HZ4.out; have := hb5.size; omega⟩
 have x0 := HPS6.out.p0
 have y0 := HPS6.out.t0
 clear hb5 hb6 hb56 HR4 HA4 HP4 HE4 HZ4 g4 HNX HP3 HE3 HA3 HR3 HZ3
 have h := eat_no HPS6.out.rdr tTrue HTT.out
 unfold tTrue at h
 have HE := Hd h
 clear h
 go_wp2_with (fail)
 refine HE.out.mono ?_
 rintro e w7 ⟨rfl, ha, hr⟩
 clear HE
 have HPS7 := Hd (HPS6.out.step HBL.out ha hr)
 have x7 := HPS7.out.p0
 have y7 := HPS7.out.t0
 clear ha hr x0 y0 HPS6 
 have h := eat_no HPS7.out.rdr tFalse HTF.out
 unfold tFalse at h
 have HE := Hd h
 clear h
 go_wp2_with (fail)
 refine HE.out.mono ?_
 rintro e w8 ⟨rfl, ha, hr⟩
 clear HE
 have HPS8 := Hd (HPS7.out.step HBL.out ha hr)
 have x8 := HPS8.out.p0
 have y8 := HPS8.out.t0
 clear ha hr x7 y7 HPS7 
 have h := eat_no HPS8.out.rdr tMinus HTM.out
 unfold tMinus at h
 have HE := Hd h
 clear h
 go_wp2_with (fail)
 refine HE.out.mono ?_
 rintro e w9 ⟨rfl, ha, hr⟩
 clear HE
 have HPS9 := Hd (HPS8.out.step HBL.out ha hr)
 have x9 := HPS9.out.p0
 have y9 := HPS9.out.t0
 clear ha hr x8 y8 HPS8 
 have h := eat_yes HPS9.out.rdr tNot HTN.out
 unfold tNot at h
 have HE := Hd h
 clear h
 go_wp2_with (fail)
 refine HE.out.mono ?_
 rintro e w10 ⟨rfl, ha, hr⟩
 clear HE
 have HPS10 := Hd (HPS9.out.step HBL.out ha hr)
 have x10 := HPS10.out.p0
 have y10 := HPS10.out.t0
 clear ha hr x9 y9 HPS9 
 go_wp2_with (fail)
 have HS : Hid (∀ W, Aside1 B w10 W → W.cell? ⟨w.heap.size, 0, none⟩ = some (.pointer (some ⟨B, 0, none⟩)) ∧ W.cell? ⟨w5.heap.size, 1, none⟩ = some (.int .i64 t1) ∧ W.cell? ⟨w5.heap.size, 2, none⟩ = some (.string t2)) := fun W ha => ⟨(HPS10.out.ptr.aside ha (by have h1 := HBL.out; omega)).cell 0, (HPS10.out.tok.aside ha (by have h1 := HBL.out; have h2 := HPS10.out.old; omega)).cell 1, (HPS10.out.tok.aside ha (by have h1 := HBL.out; have h2 := HPS10.out.old; omega)).cell 2⟩
 have HD : Hid (Aside1 B w10 w10.drew ∧ Rdr w10.drew B T E tv (k + 1) dp (ns + 1)) := ⟨aside_below (below_drew1 _), HPS10.out.rdr.below (below_drew1 _)⟩
 have h := HXX.out _ _ HD.out.2
 rw [HQ.out] at h
 have HE := Hd h
 clear h
 refine wp_region_noPanic ?_
 refine wp_region_held_drew (S := fun w' => w'.cell? ⟨w.heap.size, 0, none⟩ = some (.pointer (some ⟨B, 0, none⟩)) ∧ w'.cell? ⟨w5.heap.size, 1, none⟩ = some (.int .i64 t1) ∧ w'.cell? ⟨w5.heap.size, 2, none⟩ = some (.string t2)) (by kernel_rfl) ?_ (fun hHeld => ?_)
 · exact HS.out _ HD.out.1
 refine wpAnyH_take (i := 0) (v := ?v0x1) rfl (by kernel_rfl) (by kernel_rfl) (by kernel_rfl) (fun _ _ _ h => h) (Or.inl ⟨by rfl, ?h0x1⟩) (by assumption) ?r0x1
 case h0x1 => (intro w hSw; (try dsimp only at hSw); first | (go_simp; done) | (go_simp; with_reducible rfl))
 try simp only [Act.put, List.setIfInBounds_toArray, List.set_cons_zero, List.set_cons_succ]
 refine wpAnyH_take (i := 1) (v := ?v1x2) rfl (by kernel_rfl) (by kernel_rfl) (by kernel_rfl) (fun _ _ _ h => h) (Or.inl ⟨by rfl, ?h1x2⟩) (by assumption) ?r1x2
 case h1x2 => (intro w hSw; (try dsimp only at hSw); first | (go_simp; done) | (go_simp; with_reducible rfl))
 try simp only [Act.put, List.setIfInBounds_toArray, List.set_cons_zero, List.set_cons_succ]
 refine wpAnyH_take (i := 2) (v := ?v2x3) rfl (by kernel_rfl) (by kernel_rfl) (by kernel_rfl) (fun _ _ _ h => h) (Or.inl ⟨by rfl, ?h2x3⟩) (by assumption) ?r2x3
 case h2x3 => (intro w hSw; (try dsimp only at hSw); first | (go_simp; done) | (go_simp; with_reducible rfl))
 try simp only [Act.put, List.setIfInBounds_toArray, List.set_cons_zero, List.set_cons_succ]
 refine wpAnyH_take (i := 3) (v := ?v3x4) rfl (by kernel_rfl) (by kernel_rfl) (by kernel_rfl) (fun _ _ _ h => h) (Or.inl ⟨by rfl, ?h3x4⟩) (by assumption) ?r3x4
 case h3x4 => (intro w hSw; (try dsimp only at hSw); first | (go_simp; done) | (go_simp; with_reducible rfl))
 try simp only [Act.put, List.setIfInBounds_toArray, List.set_cons_zero, List.set_cons_succ]
 refine wpAnyH_take (i := 4) (v := ?v4x5) rfl (by kernel_rfl) (by kernel_rfl) (by kernel_rfl) (fun _ _ _ h => h) (Or.inl ⟨by rfl, ?h4x5⟩) (by assumption) ?r4x5
 case h4x5 => (intro w hSw; (try dsimp only at hSw); first | (go_simp; done) | (go_simp; with_reducible rfl))
 try simp only [Act.put, List.setIfInBounds_toArray, List.set_cons_zero, List.set_cons_succ]
 refine wpAnyH_ready (rs := [5]) (by kernel_rfl) (by simp) ?_
 refine AllReadyH.cons rfl (fun K hK => ?_) AllReadyH.nil
 go_simp
 go_at_call 167
 refine HE.out.mono ?_
 rintro e wj ⟨ha, vx, rfl, hr, hx⟩
 have HXF := Hd (hx.stays (since_mono _ (show w.heap.size + 2 ≤ w10.drew.heap.size from by have h1 := HPS10.out.res.lt; have h3 : w10.drew.heap.size = w10.heap.size := rfl; omega)))
 obtain ⟨vl, va, rfl, hvl, hva⟩ := hx
 obtain ⟨pl, cl, rfl, _⟩ := hvl
 obtain ⟨pa, ca, rfl, _⟩ := hva
 have HZ0 := Hd (HD.out.1.trans ha)
 have HPSJ := Hd (HPS10.out.step HBL.out HZ0.out hr)
 obtain ⟨wf, eW⟩ : ∃ W, wj.alloc (.cells #[.int .i64 x.kind, .int .i64 x.at_, .int .i64 x.num, .int .i64 x.ty, .string x.name, .slice pl x.lab.length cl, .slice pa x.kids.length ca] 26) = W := ⟨_, rfl⟩
 have hbk : Below wj.heap.size wj wf := by rw [← eW]; exact (Below.refl _ _).alloc (Nat.le_refl _) _
 have HZ1 := Hd (HZ0.out.trans (aside_below hbk))
 have HPSK := Hd (HPSJ.out.below HBL.out hbk)
 have hBK : Blk wf wj.heap.size (exC x (.slice pl x.lab.length cl) (.slice pa x.kids.length ca)) 26 := by rw [← eW]; exact Blk.new _ _ _
 have hks : Keeps (since (w.heap.size + 2) wj) (since (w.heap.size + 2) wf) := keeps_hide hbk.size fun b hb hp => ⟨hp, hbk.block b hb⟩
 have HRES : Hid (ExIs (since (w.heap.size + 2) wf) (.mk 3 t1 0 0 t2 [] [x]) (.agg #[.int .i64 3, .int .i64 t1, .int .i64 0, .int .i64 0, .string t2, .slice none 0 0, .slice (some ⟨wj.heap.size, 0, none⟩) 1 1])) := ⟨_, _, rfl, ⟨none, 0, rfl, Nat.le_refl _, by unfold maxLen; decide, .inl rfl⟩, exs_one (HXF.out.stays hks) hBK (by have h1 := HPSJ.out.res.lt; omega)⟩
 clear hbk hBK hks
 obtain ⟨e0, e1, e2, e3, e4, e5, e6⟩ := HPSK.out.res.cells7
 obtain ⟨f0, f1, f2, f3, f4, f5, f6⟩ := HPSK.out.res.fz7
 clear ha hr
 have HSE : Hid ((sev wf (w.heap.size + 1) (.int .i64 3) (.int .i64 t1) (.int .i64 0) (.int .i64 0) (.string t2) (.slice none 0 0) (.slice (some ⟨wj.heap.size, 0, none⟩) 1 1)).cell? ⟨w.heap.size, 0, none⟩ = some (.pointer (some ⟨B, 0, none⟩)) ∧ (sev wf (w.heap.size + 1) (.int .i64 3) (.int .i64 t1) (.int .i64 0) (.int .i64 0) (.string t2) (.slice none 0 0) (.slice (some ⟨wj.heap.size, 0, none⟩) 1 1)).cell? ⟨w5.heap.size, 1, none⟩ = some (.int .i64 t1) ∧ (sev wf (w.heap.size + 1) (.int .i64 3) (.int .i64 t1) (.int .i64 0) (.int .i64 0) (.string t2) (.slice none 0 0) (.slice (some ⟨wj.heap.size, 0, none⟩) 1 1)).cell? ⟨w5.heap.size, 2, none⟩ = some (.string t2)) := sev_keeps HPSK.out
 go_wp2_with (fail)
 refine hK.out _ _ ?_ (fun hHeld => ?_)
 · exact HS.out _ HZ0.out
 clear hK K
 try simp only [Act.put, List.setIfInBounds_toArray, List.set_cons_zero, List.set_cons_succ]
 refine wpAnyH_ready (rs := [6]) (by kernel_rfl) (by simp) ?_
 refine AllReadyH.cons rfl (fun K hK => ?_) AllReadyH.nil
 go_simp
 refine hK.out _ _ ?_ (fun hHeld => ?_)
 · exact HS.out _ HZ1.out
 clear hK K
 try simp only [Act.put, List.setIfInBounds_toArray, List.set_cons_zero, List.set_cons_succ]
 refine wpAnyH_take (i := 7) (v := ?v7x6) rfl (by kernel_rfl) (by kernel_rfl) (by kernel_rfl) (fun _ _ _ h => h) (Or.inl ⟨by rfl, ?h7x6⟩) (by assumption) ?r7x6
 case h7x6 => (intro w hSw; (try dsimp only at hSw); first | (go_simp; done) | (go_simp; with_reducible rfl))
 try simp only [Act.put, List.setIfInBounds_toArray, List.set_cons_zero, List.set_cons_succ]
 refine wpAnyH_ready (rs := [8]) (by kernel_rfl) (by simp) ?_
 refine AllReadyH.cons rfl (fun K hK => ?_) AllReadyH.nil
 go_simp
 refine hK.out _ _ ?_ (fun hHeld => ?_)
 · exact HSE.out
 clear hK K
 try simp only [Act.put, List.setIfInBounds_toArray, List.set_cons_zero, List.set_cons_succ]
 refine wpAnyH_done (by kernel_rfl) ?_ _
 refine NoPanic.normal ?_
 go_wp2_with (fail)
 exact HPSK.out.ret HNS.out H0.out rfl HRES.out
end
end
end Go.Proofs.YtminbehofnnhmaaGreatDoor
