/- Texts of the proof that ParseExpr holds, part 15; no conditions. -/
import Derived.Test.YtmepcmnpmhhiiaaGreatDoorPE14
namespace Go.Proofs.YtmepcmnpmhhiiaaGreatDoor
set_option linter.unusedVariables false
set_option linter.unusedSimpArgs false
set_option maxHeartbeats 8000000
set_option maxRecDepth 100000
section
open Go.RowKit Go.Maps
section
variable {w : World} {B : Nat} {T : List Tok} {E : Int} {tv : Value} {k bl al : Nat} {p : Nat → Rs Ex}
theorem one_num (h : Txr w B T E tv (.go k) bl al) (hal : al < 12) (h2 : (tkNext T k).1 = 2) (hato : PintC T) (hp : p k = .ok (.mk 1 (tkNext T k).2.1 (numT (tkNext T k).2.2) 1 ⟨#[]⟩ [] []) (k + 1)) :
 Calls Tryz.prog 146 #[.pointer (some ⟨B, 0, none⟩)] w (TDoes w B T E tv (.go k) bl al ExIs p) := by
 have hmf := mf_run
 have HL := Hd h.len
 have HBL : Hid (B < w.heap.size) := h.lt
 have HAL := Hd hal
 have HTK := Hd h.toks
 have HKL : Hid (k < T.length) := kind_lt (by omega)
 have HATO := Hd (hato k h2)
 have HG : Hid (Goes (.go k) p (.go (k + 1)) fun j => .ok (.mk 1 (tkNext T k).2.1 (numT (tkNext T k).2.2) 1 ⟨#[]⟩ [] []) j) := Goes.start hp
 clear hato hp
 obtain ⟨W2, eW⟩ : ∃ W2, (w.alloc (.cells #[.pointer (some ⟨B, 0, none⟩)] 104)).alloc (.cells #[.int .i64 0, .int .i64 0, .int .i64 0, .int .i64 0, .string ⟨#[]⟩, .slice none 0 0, .slice none 0 0] 26) = W2 := ⟨_, rfl⟩
 obtain ⟨z2, hb2, m0, m1⟩ := boxes2 eW
 have hP2 : Blk W2 w.heap.size [.pointer (some ⟨B, 0, none⟩)] 104 := by rw [← eW]; exact (Blk.new _ _ _).below ((Below.refl _ _).alloc (Nat.le_refl _) _)
 have hE2 : Blk W2 (w.heap.size + 1) zeroC 26 := by rw [← eW]; exact Blk.new2 _ _ _ _ _
 have g2 : W2.cell? ⟨w.heap.size, 0, none⟩ = some (.pointer (some ⟨B, 0, none⟩)) := hP2.cell 0
 have hr2 := h.below hb2
 have HNB : Hid (w.heap.size ≠ B ∧ w.heap.size + 1 ≠ B) := by have := h.lt; unfold Hid; omega
 have c3 := hr2.c3
 have c6 := hr2.c6
 have f6 := hr2.fz 6
 simp only [TS.c] at c3
 have hlt : (al : Int) < 12 := by omega
 have HD12 : Hid (decide ((12 : Int) ≤ (al : Int)) = false) := decide_eq_false (by omega)
 obtain ⟨W4, eW4⟩ : ∃ W, W2.setCell ⟨B, 6, none⟩ (.int .i64 ((al : Int) + 1)) = W := ⟨_, rfl⟩
 have ha4 : Aside1 B W2 W4 := by rw [← eW4]; exact aside_set _ _
 have HR4 : Hid (Txr W4 B T E tv (.go k) bl (al + 1)) := by unfold Hid; rw [← eW4]; exact hr2.setAl (al + 1)
 have HA4 := Hd ((aside_below (B := B) hb2).trans ha4)
 have HP4 := Hd (hP2.aside ha4 HNB.out.1)
 have HE4 := Hd (hE2.aside ha4 HNB.out.2)
 have HZ4 : Hid (w.heap.size + 1 < W4.heap.size) := HE4.out.lt
 have g4 : W4.cell? ⟨w.heap.size, 0, none⟩ = some (.pointer (some ⟨B, 0, none⟩)) := HP4.out.cell 0
 have HNX : Hid (Calls Tryz.prog 148 #[.pointer (some ⟨B, 0, none⟩)] W4 fun e w' => e = .returned (.agg #[.int .i64 (tkNext T k).1, .int .i64 (tkNext T k).2.1, .string (tkNext T k).2.2]) ∧ Below W4.heap.size W4 w') := peek_calls HR4.out
 generalize tkNext T k = t at *
 obtain ⟨t0, t1, t2⟩ := t
 have hk2 : (t0 == 2) = true := by simpa using h2
 clear h2
 clear h hal hP2 hE2 hb2 hr2 m0 m1 z2 ha4
 go_enter_defers Tryz.func146, Tryz.ntmps146
 go_upto_if 21 with fail
 try rw [HD12.out]
 have hw9 : (al : Int) + 1 ≤ 9223372036854775807 := by omega
 clear hlt
 go_wp2_with (fail)
 clear eW eW4 c3 c6 f6 g2 hw9
 refine HNX.out.mono ?_
 rintro e w5 ⟨rfl, hb5⟩
 obtain ⟨W6, eW6⟩ : ∃ W6, w5.alloc (.cells #[.int .i64 t0, .int .i64 t1, .string t2] 153) = W6 := ⟨_, rfl⟩
 have hb6 : Below w5.heap.size w5 W6 := by rw [← eW6]; exact (Below.refl _ _).alloc (Nat.le_refl _) _
 have hb56 := hb5.trans (hb6.mono hb5.size)
 have HPS6 : Hid (TP w W6 w5.heap.size B T E tv bl al (t0, t1, t2) (.go k)) := ⟨HR4.out.below hb56, HA4.out.trans (aside_below hb56), HP4.out.below hb56, HE4.out.below hb56, by rw [← eW6]; exact Blk.new _ _ _, by have := HZ4.out; have := hb5.size; omega⟩
 have x0 := HPS6.out.p0
 have y0 := HPS6.out.t0
 clear hb5 hb6 hb56 HR4 HA4 HP4 HE4 HZ4 g4 HNX
 have c1 := HPS6.out.rdr.c1
 simp only [TS.k] at c1
 have f1 := HPS6.out.rdr.fz 1
 have hw : (k : Int) + 1 ≤ 9223372036854775807 := by have h1 := HL.out; have h2 := HKL.out; omega
 obtain ⟨w7, eK⟩ : ∃ W, W6.setCell ⟨B, 1, none⟩ (.int .i64 ((k : Int) + 1)) = W := ⟨_, rfl⟩
 have ha : Aside1 B W6 w7 := by rw [← eK]; exact aside_set _ _
 have hr : Txr w7 B T E tv (.go (k + 1)) bl (al + 1) := by rw [← eK]; exact HPS6.out.rdr.upName rfl
 have HPS7 := Hd (HPS6.out.step HBL.out ha hr)
 have x7 := HPS7.out.p0
 have y7 := HPS7.out.t0
 clear ha hr
 have ty2 := HPS7.out.t2
 go_wp2_with (fail)
 refine (HATO.out w7).mono ?_
 rintro e w8 ⟨rfl, hb⟩
 have ha := aside_below (B := B) hb
 have hr := HPS7.out.rdr.below hb
 clear hb
 have HPS8 := Hd (HPS7.out.step HBL.out ha hr)
 have x8 := HPS8.out.p0
 have y8 := HPS8.out.t0
 clear ha hr x7 y7 x0 y0 c1 f1 HPS7 eK eW6
 obtain ⟨e0, e1, e2, e3, e4, e5, e6⟩ := HPS8.out.res.cells7
 obtain ⟨f0, f1, f2, f3, f4, f5, f6⟩ := HPS8.out.res.fz7
 have ty1 := HPS8.out.t1
 have ty2 := HPS8.out.t2
 go_wp2_with (fail)
 exact HPS8.out.ret HAL.out HBL.out HTK.out rfl (exIs_leaf _ _ _ _ _ _) HG.out
theorem one_true (h : Txr w B T E tv (.go k) bl al) (hal : al < 12) (h2 : (tkNext T k).1 ≠ 2) (htt : tkIs T k tTrue = true) (hp : p k = .ok (.mk 1 (tkNext T k).2.1 1 2 ⟨#[]⟩ [] []) (k + 1)) :
 Calls Tryz.prog 146 #[.pointer (some ⟨B, 0, none⟩)] w (TDoes w B T E tv (.go k) bl al ExIs p) := by
 have hmf := mf_run
 have HL := Hd h.len
 have HBL : Hid (B < w.heap.size) := h.lt
 have HAL := Hd hal
 have HTK := Hd h.toks
 have HTT : Hid ((TS.go k).is T tTrue = true) := htt
 clear htt
 have HG : Hid (Goes (.go k) p (.go (k + 1)) fun j => .ok (.mk 1 (tkNext T k).2.1 1 2 ⟨#[]⟩ [] []) j) := Goes.start hp
 clear hp
 obtain ⟨W2, eW⟩ : ∃ W2, (w.alloc (.cells #[.pointer (some ⟨B, 0, none⟩)] 104)).alloc (.cells #[.int .i64 0, .int .i64 0, .int .i64 0, .int .i64 0, .string ⟨#[]⟩, .slice none 0 0, .slice none 0 0] 26) = W2 := ⟨_, rfl⟩
 obtain ⟨z2, hb2, m0, m1⟩ := boxes2 eW
 have hP2 : Blk W2 w.heap.size [.pointer (some ⟨B, 0, none⟩)] 104 := by rw [← eW]; exact (Blk.new _ _ _).below ((Below.refl _ _).alloc (Nat.le_refl _) _)
 have hE2 : Blk W2 (w.heap.size + 1) zeroC 26 := by rw [← eW]; exact Blk.new2 _ _ _ _ _
 have g2 : W2.cell? ⟨w.heap.size, 0, none⟩ = some (.pointer (some ⟨B, 0, none⟩)) := hP2.cell 0
 have hr2 := h.below hb2
 have HNB : Hid (w.heap.size ≠ B ∧ w.heap.size + 1 ≠ B) := by have := h.lt; unfold Hid; omega
 have c3 := hr2.c3
 have c6 := hr2.c6
 have f6 := hr2.fz 6
 simp only [TS.c] at c3
 have hlt : (al : Int) < 12 := by omega
 have HD12 : Hid (decide ((12 : Int) ≤ (al : Int)) = false) := decide_eq_false (by omega)
 obtain ⟨W4, eW4⟩ : ∃ W, W2.setCell ⟨B, 6, none⟩ (.int .i64 ((al : Int) + 1)) = W := ⟨_, rfl⟩
 have ha4 : Aside1 B W2 W4 := by rw [← eW4]; exact aside_set _ _
 have HR4 : Hid (Txr W4 B T E tv (.go k) bl (al + 1)) := by unfold Hid; rw [← eW4]; exact hr2.setAl (al + 1)
 have HA4 := Hd ((aside_below (B := B) hb2).trans ha4)
 have HP4 := Hd (hP2.aside ha4 HNB.out.1)
 have HE4 := Hd (hE2.aside ha4 HNB.out.2)
 have HZ4 : Hid (w.heap.size + 1 < W4.heap.size) := HE4.out.lt
 have g4 : W4.cell? ⟨w.heap.size, 0, none⟩ = some (.pointer (some ⟨B, 0, none⟩)) := HP4.out.cell 0
 have HNX : Hid (Calls Tryz.prog 148 #[.pointer (some ⟨B, 0, none⟩)] W4 fun e w' => e = .returned (.agg #[.int .i64 (tkNext T k).1, .int .i64 (tkNext T k).2.1, .string (tkNext T k).2.2]) ∧ Below W4.heap.size W4 w') := peek_calls HR4.out
 generalize tkNext T k = t at *
 obtain ⟨t0, t1, t2⟩ := t
 have hk2 : (t0 == 2) = false := beq_false_of_ne (by simpa using h2)
 clear h2
 clear h hal hP2 hE2 hb2 hr2 m0 m1 z2 ha4
 go_enter_defers Tryz.func146, Tryz.ntmps146
 go_upto_if 21 with fail
 try rw [HD12.out]
 have hw9 : (al : Int) + 1 ≤ 9223372036854775807 := by omega
 clear hlt
 go_wp2_with (fail)
 clear eW eW4 c3 c6 f6 g2 hw9
 refine HNX.out.mono ?_
 rintro e w5 ⟨rfl, hb5⟩
 obtain ⟨W6, eW6⟩ : ∃ W6, w5.alloc (.cells #[.int .i64 t0, .int .i64 t1, .string t2] 153) = W6 := ⟨_, rfl⟩
 have hb6 : Below w5.heap.size w5 W6 := by rw [← eW6]; exact (Below.refl _ _).alloc (Nat.le_refl _) _
 have hb56 := hb5.trans (hb6.mono hb5.size)
 have HPS6 : Hid (TP w W6 w5.heap.size B T E tv bl al (t0, t1, t2) (.go k)) := ⟨HR4.out.below hb56, HA4.out.trans (aside_below hb56), HP4.out.below hb56, HE4.out.below hb56, by rw [← eW6]; exact Blk.new _ _ _, by have := HZ4.out; have := hb5.size; omega⟩
 have x0 := HPS6.out.p0
 have y0 := HPS6.out.t0
 clear hb5 hb6 hb56 HR4 HA4 HP4 HE4 HZ4 g4 HNX
 have h := skip_yes HPS6.out.rdr tTrue HTT.out
 unfold tTrue at h
 have HE := Hd h
 clear h
 go_wp2_with (fail)
 refine HE.out.mono ?_
 rintro e w7 ⟨rfl, ha, hr⟩
 clear HE
 have HPS7 := Hd (HPS6.out.step HBL.out ha hr)
 have x7 := HPS7.out.p0
 have y7 := HPS7.out.t0
 clear ha hr x0 y0 HPS6 
 obtain ⟨e0, e1, e2, e3, e4, e5, e6⟩ := HPS7.out.res.cells7
 obtain ⟨f0, f1, f2, f3, f4, f5, f6⟩ := HPS7.out.res.fz7
 have ty1 := HPS7.out.t1
 have ty2 := HPS7.out.t2
 go_wp2_with (fail)
 exact HPS7.out.ret HAL.out HBL.out HTK.out rfl (exIs_leaf _ _ _ _ _ _) HG.out
theorem one_false (h : Txr w B T E tv (.go k) bl al) (hal : al < 12) (h2 : (tkNext T k).1 ≠ 2) (htt : tkIs T k tTrue = false) (htf : tkIs T k tFalse = true) (hp : p k = .ok (.mk 1 (tkNext T k).2.1 0 2 ⟨#[]⟩ [] []) (k + 1)) :
 Calls Tryz.prog 146 #[.pointer (some ⟨B, 0, none⟩)] w (TDoes w B T E tv (.go k) bl al ExIs p) := by
 have hmf := mf_run
 have HL := Hd h.len
 have HBL : Hid (B < w.heap.size) := h.lt
 have HAL := Hd hal
 have HTK := Hd h.toks
 have HTT : Hid ((TS.go k).is T tTrue = false) := htt
 clear htt
 have HTF : Hid ((TS.go k).is T tFalse = true) := htf
 clear htf
 have HG : Hid (Goes (.go k) p (.go (k + 1)) fun j => .ok (.mk 1 (tkNext T k).2.1 0 2 ⟨#[]⟩ [] []) j) := Goes.start hp
 clear hp
 obtain ⟨W2, eW⟩ : ∃ W2, (w.alloc (.cells #[.pointer (some ⟨B, 0, none⟩)] 104)).alloc (.cells #[.int .i64 0, .int .i64 0, .int .i64 0, .int .i64 0, .string ⟨#[]⟩, .slice none 0 0, .slice none 0 0] 26) = W2 := ⟨_, rfl⟩
 obtain ⟨z2, hb2, m0, m1⟩ := boxes2 eW
 have hP2 : Blk W2 w.heap.size [.pointer (some ⟨B, 0, none⟩)] 104 := by rw [← eW]; exact (Blk.new _ _ _).below ((Below.refl _ _).alloc (Nat.le_refl _) _)
 have hE2 : Blk W2 (w.heap.size + 1) zeroC 26 := by rw [← eW]; exact Blk.new2 _ _ _ _ _
 have g2 : W2.cell? ⟨w.heap.size, 0, none⟩ = some (.pointer (some ⟨B, 0, none⟩)) := hP2.cell 0
 have hr2 := h.below hb2
 have HNB : Hid (w.heap.size ≠ B ∧ w.heap.size + 1 ≠ B) := by have := h.lt; unfold Hid; omega
 have c3 := hr2.c3
 have c6 := hr2.c6
 have f6 := hr2.fz 6
 simp only [TS.c] at c3
 have hlt : (al : Int) < 12 := by omega
 have HD12 : Hid (decide ((12 : Int) ≤ (al : Int)) = false) := decide_eq_false (by omega)
 obtain ⟨W4, eW4⟩ : ∃ W, W2.setCell ⟨B, 6, none⟩ (.int .i64 ((al : Int) + 1)) = W := ⟨_, rfl⟩
 have ha4 : Aside1 B W2 W4 := by rw [← eW4]; exact aside_set _ _
 have HR4 : Hid (Txr W4 B T E tv (.go k) bl (al + 1)) := by unfold Hid; rw [← eW4]; exact hr2.setAl (al + 1)
 have HA4 := Hd ((aside_below (B := B) hb2).trans ha4)
 have HP4 := Hd (hP2.aside ha4 HNB.out.1)
 have HE4 := Hd (hE2.aside ha4 HNB.out.2)
 have HZ4 : Hid (w.heap.size + 1 < W4.heap.size) := HE4.out.lt
 have g4 : W4.cell? ⟨w.heap.size, 0, none⟩ = some (.pointer (some ⟨B, 0, none⟩)) := HP4.out.cell 0
 have HNX : Hid (Calls Tryz.prog 148 #[.pointer (some ⟨B, 0, none⟩)] W4 fun e w' => e = .returned (.agg #[.int .i64 (tkNext T k).1, .int .i64 (tkNext T k).2.1, .string (tkNext T k).2.2]) ∧ Below W4.heap.size W4 w') := peek_calls HR4.out
 generalize tkNext T k = t at *
 obtain ⟨t0, t1, t2⟩ := t
 have hk2 : (t0 == 2) = false := beq_false_of_ne (by simpa using h2)
 clear h2
 clear h hal hP2 hE2 hb2 hr2 m0 m1 z2 ha4
 go_enter_defers Tryz.func146, Tryz.ntmps146
 go_upto_if 21 with fail
 try rw [HD12.out]
 have hw9 : (al : Int) + 1 ≤ 9223372036854775807 := by omega
 clear hlt
 go_wp2_with (fail)
 clear eW eW4 c3 c6 f6 g2 hw9
 refine HNX.out.mono ?_
 rintro e w5 ⟨rfl, hb5⟩
 obtain ⟨W6, eW6⟩ : ∃ W6, w5.alloc (.cells #[.int .i64 t0, .int .i64 t1, .string t2] 153) = W6 := ⟨_, rfl⟩
 have hb6 : Below w5.heap.size w5 W6 := by rw [← eW6]; exact (Below.refl _ _).alloc (Nat.le_refl _) _
 have hb56 := hb5.trans (hb6.mono hb5.size)
 have HPS6 : Hid (TP w W6 w5.heap.size B T E tv bl al (t0, t1, t2) (.go k)) := ⟨HR4.out.below hb56, HA4.out.trans (aside_below hb56), HP4.out.below hb56, HE4.out.below hb56, by rw [← eW6]; exact Blk.new _ _ _, by have := HZ4.out; have := hb5.size; omega⟩
 have x0 := HPS6.out.p0
 have y0 := HPS6.out.t0
 clear hb5 hb6 hb56 HR4 HA4 HP4 HE4 HZ4 g4 HNX
 have h := skip_no HPS6.out.rdr tTrue HTT.out
 unfold tTrue at h
 have HE := Hd h
 clear h
 go_wp2_with (fail)
 refine HE.out.mono ?_
 rintro e w7 ⟨rfl, hb⟩
 clear HE
 have ha := aside_below (B := B) hb
 have hr := HPS6.out.rdr.below hb
 clear hb
 have HPS7 := Hd (HPS6.out.step HBL.out ha hr)
 have x7 := HPS7.out.p0
 have y7 := HPS7.out.t0
 clear ha hr x0 y0 HPS6 
 have h := skip_yes HPS7.out.rdr tFalse HTF.out
 unfold tFalse at h
 have HE := Hd h
 clear h
 go_wp2_with (fail)
 refine HE.out.mono ?_
 rintro e w8 ⟨rfl, ha, hr⟩
 clear HE
 have HPS8 := Hd (HPS7.out.step HBL.out ha hr)
 have x8 := HPS8.out.p0
 have y8 := HPS8.out.t0
 clear ha hr x7 y7 HPS7 
 obtain ⟨e0, e1, e2, e3, e4, e5, e6⟩ := HPS8.out.res.cells7
 obtain ⟨f0, f1, f2, f3, f4, f5, f6⟩ := HPS8.out.res.fz7
 have ty1 := HPS8.out.t1
 have ty2 := HPS8.out.t2
 go_wp2_with (fail)
 exact HPS8.out.ret HAL.out HBL.out HTK.out rfl (exIs_leaf _ _ _ _ _ _) HG.out
theorem one_par (h : Txr w B T E tv (.go k) bl al) (hal : al < 12) (h2 : (tkNext T k).1 ≠ 2) (htt : tkIs T k tTrue = false) (htf : tkIs T k tFalse = false) (htm : tkIs T k tMinus = false) (htn : tkIs T k tNot = false) (htl : tkIs T k tLeft = true) {pr : Nat → Rs Ex} (hx : TReads B T E tv bl (al + 1) 71 pr) (hp : p k = (pr (k + 1)).bind fun x k2 => (mustP T E tRight k2).bind fun _ k3 => .ok x k3) :
 Calls Tryz.prog 146 #[.pointer (some ⟨B, 0, none⟩)] w (TDoes w B T E tv (.go k) bl al ExIs p) := by
 have hmf := mf_run
 have HL := Hd h.len
 have HBL : Hid (B < w.heap.size) := h.lt
 have HAL := Hd hal
 have HTK := Hd h.toks
 have HTT : Hid ((TS.go k).is T tTrue = false) := htt
 clear htt
 have HTF : Hid ((TS.go k).is T tFalse = false) := htf
 clear htf
 have HTM : Hid ((TS.go k).is T tMinus = false) := htm
 clear htm
 have HTN : Hid ((TS.go k).is T tNot = false) := htn
 clear htn
 have HTL : Hid ((TS.go k).is T tLeft = true) := htl
 clear htl
 have HXX := Hd hx
 clear hx
 have HG : Hid (Goes (.go k) p (.go (k + 1)) fun j => (pr j).bind fun x k2 => (mustP T E tRight k2).bind fun _ k3 => .ok x k3) := Goes.start hp
 clear hp
 obtain ⟨W2, eW⟩ : ∃ W2, (w.alloc (.cells #[.pointer (some ⟨B, 0, none⟩)] 104)).alloc (.cells #[.int .i64 0, .int .i64 0, .int .i64 0, .int .i64 0, .string ⟨#[]⟩, .slice none 0 0, .slice none 0 0] 26) = W2 := ⟨_, rfl⟩
 obtain ⟨z2, hb2, m0, m1⟩ := boxes2 eW
 have hP2 : Blk W2 w.heap.size [.pointer (some ⟨B, 0, none⟩)] 104 := by rw [← eW]; exact (Blk.new _ _ _).below ((Below.refl _ _).alloc (Nat.le_refl _) _)
 have hE2 : Blk W2 (w.heap.size + 1) zeroC 26 := by rw [← eW]; exact Blk.new2 _ _ _ _ _
 have g2 : W2.cell? ⟨w.heap.size, 0, none⟩ = some (.pointer (some ⟨B, 0, none⟩)) := hP2.cell 0
 have hr2 := h.below hb2
 have HNB : Hid (w.heap.size ≠ B ∧ w.heap.size + 1 ≠ B) := by have := h.lt; unfold Hid; omega
 have c3 := hr2.c3
 have c6 := hr2.c6
 have f6 := hr2.fz 6
 simp only [TS.c] at c3
 have hlt : (al : Int) < 12 := by omega
 have HD12 : Hid (decide ((12 : Int) ≤ (al : Int)) = false) := decide_eq_false (by omega)
 obtain ⟨W4, eW4⟩ : ∃ W, W2.setCell ⟨B, 6, none⟩ (.int .i64 ((al : Int) + 1)) = W := ⟨_, rfl⟩
 have ha4 : Aside1 B W2 W4 := by rw [← eW4]; exact aside_set _ _
 have HR4 : Hid (Txr W4 B T E tv (.go k) bl (al + 1)) := by unfold Hid; rw [← eW4]; exact hr2.setAl (al + 1)
 have HA4 := Hd ((aside_below (B := B) hb2).trans ha4)
 have HP4 := Hd (hP2.aside ha4 HNB.out.1)
 have HE4 := Hd (hE2.aside ha4 HNB.out.2)
 have HZ4 : Hid (w.heap.size + 1 < W4.heap.size) := HE4.out.lt
 have g4 : W4.cell? ⟨w.heap.size, 0, none⟩ = some (.pointer (some ⟨B, 0, none⟩)) := HP4.out.cell 0
 have HNX : Hid (Calls Tryz.prog 148 #[.pointer (some ⟨B, 0, none⟩)] W4 fun e w' => e = .returned (.agg #[.int .i64 (tkNext T k).1, .int .i64 (tkNext T k).2.1, .string (tkNext T k).2.2]) ∧ Below W4.heap.size W4 w') := peek_calls HR4.out
 generalize tkNext T k = t at *
 obtain ⟨t0, t1, t2⟩ := t
 have hk2 : (t0 == 2) = false := beq_false_of_ne (by simpa using h2)
 clear h2
 clear h hal hP2 hE2 hb2 hr2 m0 m1 z2 ha4
 go_enter_defers Tryz.func146, Tryz.ntmps146
 go_upto_if 21 with fail
 try rw [HD12.out]
 have hw9 : (al : Int) + 1 ≤ 9223372036854775807 := by omega
 clear hlt
 go_wp2_with (fail)
 clear eW eW4 c3 c6 f6 g2 hw9
 refine HNX.out.mono ?_
 rintro e w5 ⟨rfl, hb5⟩
 obtain ⟨W6, eW6⟩ : ∃ W6, w5.alloc (.cells #[.int .i64 t0, .int .i64 t1, .string t2] 153) = W6 := ⟨_, rfl⟩
 have hb6 : Below w5.heap.size w5 W6 := by rw [← eW6]; exact (Below.refl _ _).alloc (Nat.le_refl _) _
 have hb56 := hb5.trans (hb6.mono hb5.size)
 have HPS6 : Hid (TP w W6 w5.heap.size B T E tv bl al (t0, t1, t2) (.go k)) := ⟨HR4.out.below hb56, HA4.out.trans (aside_below hb56), HP4.out.below hb56, HE4.out.below hb56, by rw [← eW6]; exact Blk.new _ _ _, by have := HZ4.out; have := hb5.size; omega⟩
 have x0 := HPS6.out.p0
 have y0 := HPS6.out.t0
 clear hb5 hb6 hb56 HR4 HA4 HP4 HE4 HZ4 g4 HNX
 have h := skip_no HPS6.out.rdr tTrue HTT.out
 unfold tTrue at h
 have HE := Hd h
 clear h
 go_wp2_with (fail)
 refine HE.out.mono ?_
 rintro e w7 ⟨rfl, hb⟩
 clear HE
 have ha := aside_below (B := B) hb
 have hr := HPS6.out.rdr.below hb
 clear hb
 have HPS7 := Hd (HPS6.out.step HBL.out ha hr)
 have x7 := HPS7.out.p0
 have y7 := HPS7.out.t0
 clear ha hr x0 y0 HPS6 
 have h := skip_no HPS7.out.rdr tFalse HTF.out
 unfold tFalse at h
 have HE := Hd h
 clear h
 go_wp2_with (fail)
 refine HE.out.mono ?_
 rintro e w8 ⟨rfl, hb⟩
 clear HE
 have ha := aside_below (B := B) hb
 have hr := HPS7.out.rdr.below hb
 clear hb
 have HPS8 := Hd (HPS7.out.step HBL.out ha hr)
 have x8 := HPS8.out.p0
 have y8 := HPS8.out.t0
 clear ha hr x7 y7 HPS7 
 have h := skip_no HPS8.out.rdr tMinus HTM.out
 unfold tMinus at h
 have HE := Hd h
 clear h
 go_wp2_with (fail)
 refine HE.out.mono ?_
 rintro e w9 ⟨rfl, hb⟩
 clear HE
 have ha := aside_below (B := B) hb
 have hr := HPS8.out.rdr.below hb
 clear hb
 have HPS9 := Hd (HPS8.out.step HBL.out ha hr)
 have x9 := HPS9.out.p0
 have y9 := HPS9.out.t0
 clear ha hr x8 y8 HPS8 
 have h := skip_no HPS9.out.rdr tNot HTN.out
 unfold tNot at h
 have HE := Hd h
 clear h
 go_wp2_with (fail)
 refine HE.out.mono ?_
 rintro e w10 ⟨rfl, hb⟩
 clear HE
 have ha := aside_below (B := B) hb
 have hr := HPS9.out.rdr.below hb
 clear hb
 have HPS10 := Hd (HPS9.out.step HBL.out ha hr)
 have x10 := HPS10.out.p0
 have y10 := HPS10.out.t0
 clear ha hr x9 y9 HPS9 
 have h := skip_yes HPS10.out.rdr tLeft HTL.out
 unfold tLeft at h
 have HE := Hd h
 clear h
 go_wp2_with (fail)
 refine HE.out.mono ?_
 rintro e w11 ⟨rfl, ha, hr⟩
 clear HE
 have HPS11 := Hd (HPS10.out.step HBL.out ha hr)
 have x11 := HPS11.out.p0
 have y11 := HPS11.out.t0
 clear ha hr x10 y10 HPS10 
 have HE := Hd (HXX.out _ _ HPS11.out.rdr)
 go_wp2_with (fail)
 refine HE.out.mono ?_
 rintro e we ⟨ha, ve, x, rfl, hr, hx, ht⟩
 replace HG := Hd (HG.out.step ht)
 clear HE ht
 have HXE := Hd (hx.stays (since_mono _ (show w.heap.size + 2 ≤ w11.heap.size from by have h1 := HPS11.out.res.lt; omega)))
 obtain ⟨vl, va, rfl, hvl, hva⟩ := hx
 obtain ⟨pl, cl, rfl, _⟩ := hvl
 obtain ⟨pa, ca, rfl, _⟩ := hva
 obtain ⟨w12, eB⟩ : ∃ W, we.alloc (.cells #[.int .i64 x.kind, .int .i64 x.at_, .int .i64 x.num, .int .i64 x.ty, .string x.name, .slice pl x.lab.length cl, .slice pa x.kids.length ca] 26) = W := ⟨_, rfl⟩
 have hbb : Below we.heap.size we w12 := by rw [← eB]; exact (Below.refl _ _).alloc (Nat.le_refl _) _
 have HBX : Hid (Blk w12 we.heap.size (exC x (.slice pl x.lab.length cl) (.slice pa x.kids.length ca)) 26) := by rw [← eB]; exact Blk.new _ _ _
 have HXF := Hd (HXE.out.stays (keeps_hide hbb.size fun b hb hp => ⟨hp, hbb.block b hb⟩ : Keeps (since (w.heap.size + 2) we) (since (w.heap.size + 2) w12)))
 have HNE : Hid (we.heap.size ≠ B ∧ w.heap.size + 1 < we.heap.size) := ⟨by have h1 := hr.lt; omega, by have h1 := HPS11.out.res.lt; have h2 := ha.size; omega⟩
 replace hr := hr.below hbb
 replace ha := ha.trans (aside_below (B := B) hbb)
 clear HXE hbb
 have HPS12 := Hd (HPS11.out.step HBL.out ha hr)
 have x12 := HPS12.out.p0
 have y12 := HPS12.out.t0
 clear ha hr x11 y11 HPS11 
 have h := need_calls HPS12.out.rdr tRight
 unfold tRight at h
 have HE := Hd h
 clear h
 go_wp2_with (fail)
 refine HE.out.mono ?_
 rintro e w13 ⟨ha, vz, xz, rfl, hr, rfl, ht⟩
 replace HG := Hd (HG.out.step ht)
 clear ht HE
 try unfold tRight at hr
 try unfold tRight at HG
 have HXF13 := Hd (HXF.out.stays (since_aside ha (by have h1 := HBL.out; omega)))
 have HBX13 := Hd (HBX.out.aside ha HNE.out.1)
 have HPS13 := Hd (HPS12.out.step HBL.out ha hr)
 have x13 := HPS13.out.p0
 have y13 := HPS13.out.t0
 clear ha hr x12 y12 HPS12 eB
 obtain ⟨b0, b1, b2, b3, b4, b5, b6⟩ := HBX13.out.cells7
 obtain ⟨e0, e1, e2, e3, e4, e5, e6⟩ := HPS13.out.res.cells7
 obtain ⟨f0, f1, f2, f3, f4, f5, f6⟩ := HPS13.out.res.fz7
 have ty1 := HPS13.out.t1
 have ty2 := HPS13.out.t2
 go_wp2_with (fail)
 exact HPS13.out.ret HAL.out HBL.out HTK.out rfl HXF13.out HG.out
theorem one_rel (h : Txr w B T E tv (.go k) bl al) (hal : al < 12) (h2 : (tkNext T k).1 ≠ 2) (htt : tkIs T k tTrue = false) (htf : tkIs T k tFalse = false) (htm : tkIs T k tMinus = false) (htn : tkIs T k tNot = false) (htl : tkIs T k tLeft = false) (htr : tkIs T k tRelease = true) {pr : Nat → Rs Ex} (hx : TReads B T E tv bl (al + 1) 71 pr) (hp : p k = (mustP T E tLeft (k + 1)).bind fun _ k1 => (pr k1).bind fun x k2 => (mustP T E tTo k2).bind fun _ k3 => (labelP T E k3).bind fun l k4 => (mustP T E tRight k4).bind fun _ k5 => .ok (.mk 5 (tkNext T k).2.1 0 0 ⟨#[]⟩ l [x]) k5) :
 Calls Tryz.prog 146 #[.pointer (some ⟨B, 0, none⟩)] w (TDoes w B T E tv (.go k) bl al ExIs p) := by
 have hmf := mf_run
 have HL := Hd h.len
 have HBL : Hid (B < w.heap.size) := h.lt
 have HAL := Hd hal
 have HTK := Hd h.toks
 have HTT : Hid ((TS.go k).is T tTrue = false) := htt
 clear htt
 have HTF : Hid ((TS.go k).is T tFalse = false) := htf
 clear htf
 have HTM : Hid ((TS.go k).is T tMinus = false) := htm
 clear htm
 have HTN : Hid ((TS.go k).is T tNot = false) := htn
 clear htn
 have HTL : Hid ((TS.go k).is T tLeft = false) := htl
 clear htl
 have HTR : Hid ((TS.go k).is T tRelease = true) := htr
 clear htr
 have HXX := Hd hx
 clear hx
 have HG : Hid (Goes (.go k) p (.go (k + 1)) fun j => (mustP T E tLeft j).bind fun _ k1 => (pr k1).bind fun x k2 => (mustP T E tTo k2).bind fun _ k3 => (labelP T E k3).bind fun l k4 => (mustP T E tRight k4).bind fun _ k5 => .ok (.mk 5 (tkNext T k).2.1 0 0 ⟨#[]⟩ l [x]) k5) := Goes.start hp
 clear hp
 obtain ⟨W2, eW⟩ : ∃ W2, (w.alloc (.cells #[.pointer (some ⟨B, 0, none⟩)] 104)).alloc (.cells #[.int .i64 0, .int .i64 0, .int .i64 0, .int .i64 0, .string ⟨#[]⟩, .slice none 0 0, .slice none 0 0] 26) = W2 := ⟨_, rfl⟩
 obtain ⟨z2, hb2, m0, m1⟩ := boxes2 eW
 have hP2 : Blk W2 w.heap.size [.pointer (some ⟨B, 0, none⟩)] 104 := by rw [← eW]; exact (Blk.new _ _ _).below ((Below.refl _ _).alloc (Nat.le_refl _) _)
 have hE2 : Blk W2 (w.heap.size + 1) zeroC 26 := by rw [← eW]; exact Blk.new2 _ _ _ _ _
 have g2 : W2.cell? ⟨w.heap.size, 0, none⟩ = some (.pointer (some ⟨B, 0, none⟩)) := hP2.cell 0
 have hr2 := h.below hb2
 have HNB : Hid (w.heap.size ≠ B ∧ w.heap.size + 1 ≠ B) := by have := h.lt; unfold Hid; omega
 have c3 := hr2.c3
 have c6 := hr2.c6
 have f6 := hr2.fz 6
 simp only [TS.c] at c3
 have hlt : (al : Int) < 12 := by omega
 have HD12 : Hid (decide ((12 : Int) ≤ (al : Int)) = false) := decide_eq_false (by omega)
 obtain ⟨W4, eW4⟩ : ∃ W, W2.setCell ⟨B, 6, none⟩ (.int .i64 ((al : Int) + 1)) = W := ⟨_, rfl⟩
 have ha4 : Aside1 B W2 W4 := by rw [← eW4]; exact aside_set _ _
 have HR4 : Hid (Txr W4 B T E tv (.go k) bl (al + 1)) := by unfold Hid; rw [← eW4]; exact hr2.setAl (al + 1)
 have HA4 := Hd ((aside_below (B := B) hb2).trans ha4)
 have HP4 := Hd (hP2.aside ha4 HNB.out.1)
 have HE4 := Hd (hE2.aside ha4 HNB.out.2)
 have HZ4 : Hid (w.heap.size + 1 < W4.heap.size) := HE4.out.lt
 have g4 : W4.cell? ⟨w.heap.size, 0, none⟩ = some (.pointer (some ⟨B, 0, none⟩)) := HP4.out.cell 0
 have HNX : Hid (Calls Tryz.prog 148 #[.pointer (some ⟨B, 0, none⟩)] W4 fun e w' => e = .returned (.agg #[.int .i64 (tkNext T k).1, .int .i64 (tkNext T k).2.1, .string (tkNext T k).2.2]) ∧ Below W4.heap.size W4 w') := peek_calls HR4.out
 generalize tkNext T k = t at *
 obtain ⟨t0, t1, t2⟩ := t
 have hk2 : (t0 == 2) = false := beq_false_of_ne (by simpa using h2)
 clear h2
 clear h hal hP2 hE2 hb2 hr2 m0 m1 z2 ha4
 go_enter_defers Tryz.func146, Tryz.ntmps146
 go_upto_if 21 with fail
 try rw [HD12.out]
 have hw9 : (al : Int) + 1 ≤ 9223372036854775807 := by omega
 clear hlt
 go_wp2_with (fail)
 clear eW eW4 c3 c6 f6 g2 hw9
 refine HNX.out.mono ?_
 rintro e w5 ⟨rfl, hb5⟩
 obtain ⟨W6, eW6⟩ : ∃ W6, w5.alloc (.cells #[.int .i64 t0, .int .i64 t1, .string t2] 153) = W6 := ⟨_, rfl⟩
 have hb6 : Below w5.heap.size w5 W6 := by rw [← eW6]; exact (Below.refl _ _).alloc (Nat.le_refl _) _
 have hb56 := hb5.trans (hb6.mono hb5.size)
 have HPS6 : Hid (TP w W6 w5.heap.size B T E tv bl al (t0, t1, t2) (.go k)) := ⟨HR4.out.below hb56, HA4.out.trans (aside_below hb56), HP4.out.below hb56, HE4.out.below hb56, by rw [← eW6]; exact Blk.new _ _ _, by have := HZ4.out; have := hb5.size; omega⟩
 have x0 := HPS6.out.p0
 have y0 := HPS6.out.t0
 clear hb5 hb6 hb56 HR4 HA4 HP4 HE4 HZ4 g4 HNX
 have h := skip_no HPS6.out.rdr tTrue HTT.out
 unfold tTrue at h
 have HE := Hd h
 clear h
 go_wp2_with (fail)
 refine HE.out.mono ?_
 rintro e w7 ⟨rfl, hb⟩
 clear HE
 have ha := aside_below (B := B) hb
 have hr := HPS6.out.rdr.below hb
 clear hb
 have HPS7 := Hd (HPS6.out.step HBL.out ha hr)
 have x7 := HPS7.out.p0
 have y7 := HPS7.out.t0
 clear ha hr x0 y0 HPS6 
 have h := skip_no HPS7.out.rdr tFalse HTF.out
 unfold tFalse at h
 have HE := Hd h
 clear h
 go_wp2_with (fail)
 refine HE.out.mono ?_
 rintro e w8 ⟨rfl, hb⟩
 clear HE
 have ha := aside_below (B := B) hb
 have hr := HPS7.out.rdr.below hb
 clear hb
 have HPS8 := Hd (HPS7.out.step HBL.out ha hr)
 have x8 := HPS8.out.p0
 have y8 := HPS8.out.t0
 clear ha hr x7 y7 HPS7 
 have h := skip_no HPS8.out.rdr tMinus HTM.out
 unfold tMinus at h
 have HE := Hd h
 clear h
 go_wp2_with (fail)
 refine HE.out.mono ?_
 rintro e w9 ⟨rfl, hb⟩
 clear HE
 have ha := aside_below (B := B) hb
 have hr := HPS8.out.rdr.below hb
 clear hb
 have HPS9 := Hd (HPS8.out.step HBL.out ha hr)
 have x9 := HPS9.out.p0
 have y9 := HPS9.out.t0
 clear ha hr x8 y8 HPS8 
 have h := skip_no HPS9.out.rdr tNot HTN.out
 unfold tNot at h
 have HE := Hd h
 clear h
 go_wp2_with (fail)
 refine HE.out.mono ?_
 rintro e w10 ⟨rfl, hb⟩
 clear HE
 have ha := aside_below (B := B) hb
 have hr := HPS9.out.rdr.below hb
 clear hb
 have HPS10 := Hd (HPS9.out.step HBL.out ha hr)
 have x10 := HPS10.out.p0
 have y10 := HPS10.out.t0
 clear ha hr x9 y9 HPS9 
 have h := skip_no HPS10.out.rdr tLeft HTL.out
 unfold tLeft at h
 have HE := Hd h
 clear h
 go_wp2_with (fail)
 refine HE.out.mono ?_
 rintro e w11 ⟨rfl, hb⟩
 clear HE
 have ha := aside_below (B := B) hb
 have hr := HPS10.out.rdr.below hb
 clear hb
 have HPS11 := Hd (HPS10.out.step HBL.out ha hr)
 have x11 := HPS11.out.p0
 have y11 := HPS11.out.t0
 clear ha hr x10 y10 HPS10 
 have h := skip_yes HPS11.out.rdr tRelease HTR.out
 unfold tRelease at h
 have HE := Hd h
 clear h
 go_wp2_with (fail)
 refine HE.out.mono ?_
 rintro e w12 ⟨rfl, ha, hr⟩
 clear HE
 have HPS12 := Hd (HPS11.out.step HBL.out ha hr)
 have x12 := HPS12.out.p0
 have y12 := HPS12.out.t0
 clear ha hr x11 y11 HPS11 
 have h := need_calls HPS12.out.rdr tLeft
 unfold tLeft at h
 have HE := Hd h
 clear h
 go_wp2_with (fail)
 refine HE.out.mono ?_
 rintro e w13 ⟨ha, vz, xz, rfl, hr, rfl, ht⟩
 replace HG := Hd (HG.out.step ht)
 clear ht HE
 try unfold tLeft at hr
 try unfold tLeft at HG
 have HPS13 := Hd (HPS12.out.step HBL.out ha hr)
 have x13 := HPS13.out.p0
 have y13 := HPS13.out.t0
 clear ha hr x12 y12 HPS12 
 have HE := Hd (HXX.out _ _ HPS13.out.rdr)
 go_wp2_with (fail)
 refine HE.out.mono ?_
 rintro e we ⟨ha, ve, x, rfl, hr, hx, ht⟩
 replace HG := Hd (HG.out.step ht)
 clear HE ht
 have HXE := Hd (hx.stays (since_mono _ (show w.heap.size + 2 ≤ w13.heap.size from by have h1 := HPS13.out.res.lt; omega)))
 obtain ⟨vl, va, rfl, hvl, hva⟩ := hx
 obtain ⟨pl, cl, rfl, _⟩ := hvl
 obtain ⟨pa, ca, rfl, _⟩ := hva
 obtain ⟨w14, eB⟩ : ∃ W, we.alloc (.cells #[.int .i64 x.kind, .int .i64 x.at_, .int .i64 x.num, .int .i64 x.ty, .string x.name, .slice pl x.lab.length cl, .slice pa x.kids.length ca] 26) = W := ⟨_, rfl⟩
 have hbb : Below we.heap.size we w14 := by rw [← eB]; exact (Below.refl _ _).alloc (Nat.le_refl _) _
 have HBX : Hid (Blk w14 we.heap.size (exC x (.slice pl x.lab.length cl) (.slice pa x.kids.length ca)) 26) := by rw [← eB]; exact Blk.new _ _ _
 have HXF := Hd (HXE.out.stays (keeps_hide hbb.size fun b hb hp => ⟨hp, hbb.block b hb⟩ : Keeps (since (w.heap.size + 2) we) (since (w.heap.size + 2) w14)))
 have HNE : Hid (we.heap.size ≠ B ∧ w.heap.size + 1 < we.heap.size) := ⟨by have h1 := hr.lt; omega, by have h1 := HPS13.out.res.lt; have h2 := ha.size; omega⟩
 replace hr := hr.below hbb
 replace ha := ha.trans (aside_below (B := B) hbb)
 clear HXE hbb
 have HPS14 := Hd (HPS13.out.step HBL.out ha hr)
 have x14 := HPS14.out.p0
 have y14 := HPS14.out.t0
 clear ha hr x13 y13 HPS13 
 have h := need_calls HPS14.out.rdr tTo
 unfold tTo at h
 have HE := Hd h
 clear h
 go_wp2_with (fail)
 refine HE.out.mono ?_
 rintro e w15 ⟨ha, vz, xz, rfl, hr, rfl, ht⟩
 replace HG := Hd (HG.out.step ht)
 clear ht HE
 try unfold tTo at hr
 try unfold tTo at HG
 have HXF15 := Hd (HXF.out.stays (since_aside ha (by have h1 := HBL.out; omega)))
 have HBX15 := Hd (HBX.out.aside ha HNE.out.1)
 have HPS15 := Hd (HPS14.out.step HBL.out ha hr)
 have x15 := HPS15.out.p0
 have y15 := HPS15.out.t0
 clear ha hr x14 y14 HPS14 eB
 have HE := Hd (tlabel_calls HPS15.out.rdr)
 go_wp2_with (fail)
 refine HE.out.mono ?_
 rintro e w16 ⟨ha, vb, lb, rfl, hr, hlb, ht⟩
 replace HG := Hd (HG.out.step ht)
 clear HE ht
 have HLB : Hid (Lbl (since (w.heap.size + 2) w16) lb vb) := Lbl.stays (since_mono _ (by have h1 := HPS15.out.res.lt; omega)) hlb
 obtain ⟨pb, cb, rfl, _⟩ := hlb
 have HXF16 := Hd (HXF15.out.stays (since_aside ha (by have h1 := HBL.out; omega)))
 have HBX16 := Hd (HBX15.out.aside ha HNE.out.1)
 have HPS16 := Hd (HPS15.out.step HBL.out ha hr)
 have x16 := HPS16.out.p0
 have y16 := HPS16.out.t0
 clear ha hr x15 y15 HPS15 
 have h := need_calls HPS16.out.rdr tRight
 unfold tRight at h
 have HE := Hd h
 clear h
 go_wp2_with (fail)
 refine HE.out.mono ?_
 rintro e w17 ⟨ha, vz, xz, rfl, hr, rfl, ht⟩
 replace HG := Hd (HG.out.step ht)
 clear ht HE
 try unfold tRight at hr
 try unfold tRight at HG
 have HLB2 := Hd (Lbl.stays (since_aside ha (by have h1 := HBL.out; omega)) HLB.out)
 have HXF17 := Hd (HXF16.out.stays (since_aside ha (by have h1 := HBL.out; omega)))
 have HBX17 := Hd (HBX16.out.aside ha HNE.out.1)
 have HPS17 := Hd (HPS16.out.step HBL.out ha hr)
 have x17 := HPS17.out.p0
 have y17 := HPS17.out.t0
 clear ha hr x16 y16 HPS16 
 obtain ⟨b0, b1, b2, b3, b4, b5, b6⟩ := HBX17.out.cells7
 obtain ⟨wk, eW⟩ : ∃ W, w17.alloc (.cells #[.int .i64 x.kind, .int .i64 x.at_, .int .i64 x.num, .int .i64 x.ty, .string x.name, .slice pl x.lab.length cl, .slice pa x.kids.length ca] 26) = W := ⟨_, rfl⟩
 have hbk : Below w17.heap.size w17 wk := by rw [← eW]; exact (Below.refl _ _).alloc (Nat.le_refl _) _
 have HPSK := Hd (HPS17.out.below HBL.out hbk)
 have HBK : Hid (Blk wk w17.heap.size (exC x (.slice pl x.lab.length cl) (.slice pa x.kids.length ca)) 26) := by rw [← eW]; exact Blk.new _ _ _
 have hks : Keeps (since (w.heap.size + 2) w17) (since (w.heap.size + 2) wk) := keeps_hide hbk.size fun b hb hp => ⟨hp, hbk.block b hb⟩
 have HRES : Hid (ExIs (since (w.heap.size + 2) wk) (.mk 5 t1 0 0 ⟨#[]⟩ lb [x]) (.agg #[.int .i64 5, .int .i64 t1, .int .i64 0, .int .i64 0, .string ⟨#[]⟩, .slice pb lb.length cb, .slice (some ⟨w17.heap.size, 0, none⟩) 1 1])) := ⟨_, _, rfl, HLB2.out.stays hks, exs_one (HXF17.out.stays hks) HBK.out (by have h1 := HPS17.out.res.lt; omega)⟩
 clear hbk hks
 have z0 := HPSK.out.p0
 have ty1 := HPS17.out.t1
 obtain ⟨e0, e1, e2, e3, e4, e5, e6⟩ := HPSK.out.res.cells7
 obtain ⟨f0, f1, f2, f3, f4, f5, f6⟩ := HPSK.out.res.fz7
 go_wp2_with (fail)
 exact HPSK.out.ret HAL.out HBL.out HTK.out rfl HRES.out HG.out
theorem one_var (h : Txr w B T E tv (.go k) bl al) (hal : al < 12) (h2 : (tkNext T k).1 ≠ 2) (htt : tkIs T k tTrue = false) (htf : tkIs T k tFalse = false) (htm : tkIs T k tMinus = false) (htn : tkIs T k tNot = false) (htl : tkIs T k tLeft = false) (htr : tkIs T k tRelease = false) (h1 : (tkNext T k).1 = 1) (hl : tkIs T (k + 1) tLeft = false) (hp : p k = .ok (.mk 2 (tkNext T k).2.1 0 0 (tkNext T k).2.2 [] []) (k + 1)) :
 Calls Tryz.prog 146 #[.pointer (some ⟨B, 0, none⟩)] w (TDoes w B T E tv (.go k) bl al ExIs p) := by
 have hmf := mf_run
 have HL := Hd h.len
 have HBL : Hid (B < w.heap.size) := h.lt
 have HAL := Hd hal
 have HTK := Hd h.toks
 have HTT : Hid ((TS.go k).is T tTrue = false) := htt
 clear htt
 have HTF : Hid ((TS.go k).is T tFalse = false) := htf
 clear htf
 have HTM : Hid ((TS.go k).is T tMinus = false) := htm
 clear htm
 have HTN : Hid ((TS.go k).is T tNot = false) := htn
 clear htn
 have HTL : Hid ((TS.go k).is T tLeft = false) := htl
 clear htl
 have HTR : Hid ((TS.go k).is T tRelease = false) := htr
 clear htr
 have HNM : Hid ((TS.go k).run (nameP T E) = .go (k + 1) ∧ ∀ x, (TS.go k).tells (nameP T E) x → (tkNext T k).2.2 = x) := ⟨tname_run h1, fun x hx => (hx k (tkNext T k).2.2 (k + 1) rfl (by unfold nameP; rw [if_pos h1])).symm⟩
 have HLL : Hid ((TS.go (k + 1)).is T tLeft = false) := hl
 have HG : Hid (Goes (.go k) p (.go (k + 1)) fun j => .ok (.mk 2 (tkNext T k).2.1 0 0 (tkNext T k).2.2 [] []) j) := Goes.start hp
 clear hl hp h1
 obtain ⟨W2, eW⟩ : ∃ W2, (w.alloc (.cells #[.pointer (some ⟨B, 0, none⟩)] 104)).alloc (.cells #[.int .i64 0, .int .i64 0, .int .i64 0, .int .i64 0, .string ⟨#[]⟩, .slice none 0 0, .slice none 0 0] 26) = W2 := ⟨_, rfl⟩
 obtain ⟨z2, hb2, m0, m1⟩ := boxes2 eW
 have hP2 : Blk W2 w.heap.size [.pointer (some ⟨B, 0, none⟩)] 104 := by rw [← eW]; exact (Blk.new _ _ _).below ((Below.refl _ _).alloc (Nat.le_refl _) _)
 have hE2 : Blk W2 (w.heap.size + 1) zeroC 26 := by rw [← eW]; exact Blk.new2 _ _ _ _ _
 have g2 : W2.cell? ⟨w.heap.size, 0, none⟩ = some (.pointer (some ⟨B, 0, none⟩)) := hP2.cell 0
 have hr2 := h.below hb2
 have HNB : Hid (w.heap.size ≠ B ∧ w.heap.size + 1 ≠ B) := by have := h.lt; unfold Hid; omega
 have c3 := hr2.c3
 have c6 := hr2.c6
 have f6 := hr2.fz 6
 simp only [TS.c] at c3
 have hlt : (al : Int) < 12 := by omega
 have HD12 : Hid (decide ((12 : Int) ≤ (al : Int)) = false) := decide_eq_false (by omega)
 obtain ⟨W4, eW4⟩ : ∃ W, W2.setCell ⟨B, 6, none⟩ (.int .i64 ((al : Int) + 1)) = W := ⟨_, rfl⟩
 have ha4 : Aside1 B W2 W4 := by rw [← eW4]; exact aside_set _ _
 have HR4 : Hid (Txr W4 B T E tv (.go k) bl (al + 1)) := by unfold Hid; rw [← eW4]; exact hr2.setAl (al + 1)
 have HA4 := Hd ((aside_below (B := B) hb2).trans ha4)
 have HP4 := Hd (hP2.aside ha4 HNB.out.1)
 have HE4 := Hd (hE2.aside ha4 HNB.out.2)
 have HZ4 : Hid (w.heap.size + 1 < W4.heap.size) := HE4.out.lt
 have g4 : W4.cell? ⟨w.heap.size, 0, none⟩ = some (.pointer (some ⟨B, 0, none⟩)) := HP4.out.cell 0
 have HNX : Hid (Calls Tryz.prog 148 #[.pointer (some ⟨B, 0, none⟩)] W4 fun e w' => e = .returned (.agg #[.int .i64 (tkNext T k).1, .int .i64 (tkNext T k).2.1, .string (tkNext T k).2.2]) ∧ Below W4.heap.size W4 w') := peek_calls HR4.out
 generalize tkNext T k = t at *
 obtain ⟨t0, t1, t2⟩ := t
 have hk2 : (t0 == 2) = false := beq_false_of_ne (by simpa using h2)
 clear h2
 clear h hal hP2 hE2 hb2 hr2 m0 m1 z2 ha4
 go_enter_defers Tryz.func146, Tryz.ntmps146
 go_upto_if 21 with fail
 try rw [HD12.out]
 have hw9 : (al : Int) + 1 ≤ 9223372036854775807 := by omega
 clear hlt
 go_wp2_with (fail)
 clear eW eW4 c3 c6 f6 g2 hw9
 refine HNX.out.mono ?_
 rintro e w5 ⟨rfl, hb5⟩
 obtain ⟨W6, eW6⟩ : ∃ W6, w5.alloc (.cells #[.int .i64 t0, .int .i64 t1, .string t2] 153) = W6 := ⟨_, rfl⟩
 have hb6 : Below w5.heap.size w5 W6 := by rw [← eW6]; exact (Below.refl _ _).alloc (Nat.le_refl _) _
 have hb56 := hb5.trans (hb6.mono hb5.size)
 have HPS6 : Hid (TP w W6 w5.heap.size B T E tv bl al (t0, t1, t2) (.go k)) := ⟨HR4.out.below hb56, HA4.out.trans (aside_below hb56), HP4.out.below hb56, HE4.out.below hb56, by rw [← eW6]; exact Blk.new _ _ _, by have := HZ4.out; have := hb5.size; omega⟩
 have x0 := HPS6.out.p0
 have y0 := HPS6.out.t0
 clear hb5 hb6 hb56 HR4 HA4 HP4 HE4 HZ4 g4 HNX
 have h := skip_no HPS6.out.rdr tTrue HTT.out
 unfold tTrue at h
 have HE := Hd h
 clear h
 go_wp2_with (fail)
 refine HE.out.mono ?_
 rintro e w7 ⟨rfl, hb⟩
 clear HE
 have ha := aside_below (B := B) hb
 have hr := HPS6.out.rdr.below hb
 clear hb
 have HPS7 := Hd (HPS6.out.step HBL.out ha hr)
 have x7 := HPS7.out.p0
 have y7 := HPS7.out.t0
 clear ha hr x0 y0 HPS6 
 have h := skip_no HPS7.out.rdr tFalse HTF.out
 unfold tFalse at h
 have HE := Hd h
 clear h
 go_wp2_with (fail)
 refine HE.out.mono ?_
 rintro e w8 ⟨rfl, hb⟩
 clear HE
 have ha := aside_below (B := B) hb
 have hr := HPS7.out.rdr.below hb
 clear hb
 have HPS8 := Hd (HPS7.out.step HBL.out ha hr)
 have x8 := HPS8.out.p0
 have y8 := HPS8.out.t0
 clear ha hr x7 y7 HPS7 
 have h := skip_no HPS8.out.rdr tMinus HTM.out
 unfold tMinus at h
 have HE := Hd h
 clear h
 go_wp2_with (fail)
 refine HE.out.mono ?_
 rintro e w9 ⟨rfl, hb⟩
 clear HE
 have ha := aside_below (B := B) hb
 have hr := HPS8.out.rdr.below hb
 clear hb
 have HPS9 := Hd (HPS8.out.step HBL.out ha hr)
 have x9 := HPS9.out.p0
 have y9 := HPS9.out.t0
 clear ha hr x8 y8 HPS8 
 have h := skip_no HPS9.out.rdr tNot HTN.out
 unfold tNot at h
 have HE := Hd h
 clear h
 go_wp2_with (fail)
 refine HE.out.mono ?_
 rintro e w10 ⟨rfl, hb⟩
 clear HE
 have ha := aside_below (B := B) hb
 have hr := HPS9.out.rdr.below hb
 clear hb
 have HPS10 := Hd (HPS9.out.step HBL.out ha hr)
 have x10 := HPS10.out.p0
 have y10 := HPS10.out.t0
 clear ha hr x9 y9 HPS9 
 have h := skip_no HPS10.out.rdr tLeft HTL.out
 unfold tLeft at h
 have HE := Hd h
 clear h
 go_wp2_with (fail)
 refine HE.out.mono ?_
 rintro e w11 ⟨rfl, hb⟩
 clear HE
 have ha := aside_below (B := B) hb
 have hr := HPS10.out.rdr.below hb
 clear hb
 have HPS11 := Hd (HPS10.out.step HBL.out ha hr)
 have x11 := HPS11.out.p0
 have y11 := HPS11.out.t0
 clear ha hr x10 y10 HPS10 
 have h := skip_no HPS11.out.rdr tRelease HTR.out
 unfold tRelease at h
 have HE := Hd h
 clear h
 go_wp2_with (fail)
 refine HE.out.mono ?_
 rintro e w12 ⟨rfl, hb⟩
 clear HE
 have ha := aside_below (B := B) hb
 have hr := HPS11.out.rdr.below hb
 clear hb
 have HPS12 := Hd (HPS11.out.step HBL.out ha hr)
 have x12 := HPS12.out.p0
 have y12 := HPS12.out.t0
 clear ha hr x11 y11 HPS11 
 have HE := Hd (tname_calls HPS12.out.rdr)
 go_wp2_with (fail)
 refine HE.out.mono ?_
 rintro e w13 ⟨ha, vz, s9, rfl, hr, rfl, ht⟩
 obtain rfl := HNM.out.2 _ ht
 rw [HNM.out.1] at hr
 clear HE ht
 have HPS13 := Hd (HPS12.out.step HBL.out ha hr)
 have x13 := HPS13.out.p0
 have y13 := HPS13.out.t0
 clear ha hr x12 y12 HPS12 
 have h := sees_calls HPS13.out.rdr tLeft
 rw [HLL.out] at h
 unfold tLeft at h
 have HE := Hd h
 clear h
 go_wp2_with (fail)
 refine HE.out.mono ?_
 rintro e w14 ⟨rfl, hb⟩
 have ha := aside_below (B := B) hb
 have hr := HPS13.out.rdr.below hb
 clear HE hb
 have HPS14 := Hd (HPS13.out.step HBL.out ha hr)
 have x14 := HPS14.out.p0
 have y14 := HPS14.out.t0
 clear ha hr x13 y13 HPS13 
 obtain ⟨e0, e1, e2, e3, e4, e5, e6⟩ := HPS14.out.res.cells7
 obtain ⟨f0, f1, f2, f3, f4, f5, f6⟩ := HPS14.out.res.fz7
 have ty1 := HPS14.out.t1
 have ty2 := HPS14.out.t2
 go_wp2_with (fail)
 exact HPS14.out.ret HAL.out HBL.out HTK.out rfl (exIs_leaf _ _ _ _ _ _) HG.out
theorem one_fail (h : Txr w B T E tv (.go k) bl al) (hal : al < 12) (h2 : (tkNext T k).1 ≠ 2) (htt : tkIs T k tTrue = false) (htf : tkIs T k tFalse = false) (htm : tkIs T k tMinus = false) (htn : tkIs T k tNot = false) (htl : tkIs T k tLeft = false) (htr : tkIs T k tRelease = false) (h1 : (tkNext T k).1 ≠ 1) (hp : p k = failP T E 1 k) :
 Calls Tryz.prog 146 #[.pointer (some ⟨B, 0, none⟩)] w (TDoes w B T E tv (.go k) bl al ExIs p) := by
 have hmf := mf_run
 have HL := Hd h.len
 have HBL : Hid (B < w.heap.size) := h.lt
 have HAL := Hd hal
 have HTK := Hd h.toks
 have HTT : Hid ((TS.go k).is T tTrue = false) := htt
 clear htt
 have HTF : Hid ((TS.go k).is T tFalse = false) := htf
 clear htf
 have HTM : Hid ((TS.go k).is T tMinus = false) := htm
 clear htm
 have HTN : Hid ((TS.go k).is T tNot = false) := htn
 clear htn
 have HTL : Hid ((TS.go k).is T tLeft = false) := htl
 clear htl
 have HTR : Hid ((TS.go k).is T tRelease = false) := htr
 clear htr
 have HNM : Hid ((TS.go k).run (nameP T E) = .stop 1 (tkAt T E k)) := by unfold Hid TS.run nameP; simp [h1, failP]
 have HLL : Hid ((TS.stop 1 (tkAt T E k)).is T tLeft = false) := tkIs_end _
 have HG : Hid (∀ x : Ex, Goes (.go k) p (.stop 1 (tkAt T E k)) fun j => .ok x j) := fun x => ⟨by simp only [TS.run, hp, failP], fun i y k' e1 e2 => by cases e1; rw [hp] at e2; cases e2⟩
 clear hp h1
 obtain ⟨W2, eW⟩ : ∃ W2, (w.alloc (.cells #[.pointer (some ⟨B, 0, none⟩)] 104)).alloc (.cells #[.int .i64 0, .int .i64 0, .int .i64 0, .int .i64 0, .string ⟨#[]⟩, .slice none 0 0, .slice none 0 0] 26) = W2 := ⟨_, rfl⟩
 obtain ⟨z2, hb2, m0, m1⟩ := boxes2 eW
 have hP2 : Blk W2 w.heap.size [.pointer (some ⟨B, 0, none⟩)] 104 := by rw [← eW]; exact (Blk.new _ _ _).below ((Below.refl _ _).alloc (Nat.le_refl _) _)
 have hE2 : Blk W2 (w.heap.size + 1) zeroC 26 := by rw [← eW]; exact Blk.new2 _ _ _ _ _
 have g2 : W2.cell? ⟨w.heap.size, 0, none⟩ = some (.pointer (some ⟨B, 0, none⟩)) := hP2.cell 0
 have hr2 := h.below hb2
 have HNB : Hid (w.heap.size ≠ B ∧ w.heap.size + 1 ≠ B) := by have := h.lt; unfold Hid; omega
 have c3 := hr2.c3
 have c6 := hr2.c6
 have f6 := hr2.fz 6
 simp only [TS.c] at c3
 have hlt : (al : Int) < 12 := by omega
 have HD12 : Hid (decide ((12 : Int) ≤ (al : Int)) = false) := decide_eq_false (by omega)
 obtain ⟨W4, eW4⟩ : ∃ W, W2.setCell ⟨B, 6, none⟩ (.int .i64 ((al : Int) + 1)) = W := ⟨_, rfl⟩
 have ha4 : Aside1 B W2 W4 := by rw [← eW4]; exact aside_set _ _
 have HR4 : Hid (Txr W4 B T E tv (.go k) bl (al + 1)) := by unfold Hid; rw [← eW4]; exact hr2.setAl (al + 1)
 have HA4 := Hd ((aside_below (B := B) hb2).trans ha4)
 have HP4 := Hd (hP2.aside ha4 HNB.out.1)
 have HE4 := Hd (hE2.aside ha4 HNB.out.2)
 have HZ4 : Hid (w.heap.size + 1 < W4.heap.size) := HE4.out.lt
 have g4 : W4.cell? ⟨w.heap.size, 0, none⟩ = some (.pointer (some ⟨B, 0, none⟩)) := HP4.out.cell 0
 have HNX : Hid (Calls Tryz.prog 148 #[.pointer (some ⟨B, 0, none⟩)] W4 fun e w' => e = .returned (.agg #[.int .i64 (tkNext T k).1, .int .i64 (tkNext T k).2.1, .string (tkNext T k).2.2]) ∧ Below W4.heap.size W4 w') := peek_calls HR4.out
 generalize tkNext T k = t at *
 obtain ⟨t0, t1, t2⟩ := t
 have hk2 : (t0 == 2) = false := beq_false_of_ne (by simpa using h2)
 clear h2
 clear h hal hP2 hE2 hb2 hr2 m0 m1 z2 ha4
 go_enter_defers Tryz.func146, Tryz.ntmps146
 go_upto_if 21 with fail
 try rw [HD12.out]
 have hw9 : (al : Int) + 1 ≤ 9223372036854775807 := by omega
 clear hlt
 go_wp2_with (fail)
 clear eW eW4 c3 c6 f6 g2 hw9
 refine HNX.out.mono ?_
 rintro e w5 ⟨rfl, hb5⟩
 obtain ⟨W6, eW6⟩ : ∃ W6, w5.alloc (.cells #[.int .i64 t0, .int .i64 t1, .string t2] 153) = W6 := ⟨_, rfl⟩
 have hb6 : Below w5.heap.size w5 W6 := by rw [← eW6]; exact (Below.refl _ _).alloc (Nat.le_refl _) _
 have hb56 := hb5.trans (hb6.mono hb5.size)
 have HPS6 : Hid (TP w W6 w5.heap.size B T E tv bl al (t0, t1, t2) (.go k)) := ⟨HR4.out.below hb56, HA4.out.trans (aside_below hb56), HP4.out.below hb56, HE4.out.below hb56, by rw [← eW6]; exact Blk.new _ _ _, by have := HZ4.out; have := hb5.size; omega⟩
 have x0 := HPS6.out.p0
 have y0 := HPS6.out.t0
 clear hb5 hb6 hb56 HR4 HA4 HP4 HE4 HZ4 g4 HNX
 have h := skip_no HPS6.out.rdr tTrue HTT.out
 unfold tTrue at h
 have HE := Hd h
 clear h
 go_wp2_with (fail)
 refine HE.out.mono ?_
 rintro e w7 ⟨rfl, hb⟩
 clear HE
 have ha := aside_below (B := B) hb
 have hr := HPS6.out.rdr.below hb
 clear hb
 have HPS7 := Hd (HPS6.out.step HBL.out ha hr)
 have x7 := HPS7.out.p0
 have y7 := HPS7.out.t0
 clear ha hr x0 y0 HPS6 
 have h := skip_no HPS7.out.rdr tFalse HTF.out
 unfold tFalse at h
 have HE := Hd h
 clear h
 go_wp2_with (fail)
 refine HE.out.mono ?_
 rintro e w8 ⟨rfl, hb⟩
 clear HE
 have ha := aside_below (B := B) hb
 have hr := HPS7.out.rdr.below hb
 clear hb
 have HPS8 := Hd (HPS7.out.step HBL.out ha hr)
 have x8 := HPS8.out.p0
 have y8 := HPS8.out.t0
 clear ha hr x7 y7 HPS7 
 have h := skip_no HPS8.out.rdr tMinus HTM.out
 unfold tMinus at h
 have HE := Hd h
 clear h
 go_wp2_with (fail)
 refine HE.out.mono ?_
 rintro e w9 ⟨rfl, hb⟩
 clear HE
 have ha := aside_below (B := B) hb
 have hr := HPS8.out.rdr.below hb
 clear hb
 have HPS9 := Hd (HPS8.out.step HBL.out ha hr)
 have x9 := HPS9.out.p0
 have y9 := HPS9.out.t0
 clear ha hr x8 y8 HPS8 
 have h := skip_no HPS9.out.rdr tNot HTN.out
 unfold tNot at h
 have HE := Hd h
 clear h
 go_wp2_with (fail)
 refine HE.out.mono ?_
 rintro e w10 ⟨rfl, hb⟩
 clear HE
 have ha := aside_below (B := B) hb
 have hr := HPS9.out.rdr.below hb
 clear hb
 have HPS10 := Hd (HPS9.out.step HBL.out ha hr)
 have x10 := HPS10.out.p0
 have y10 := HPS10.out.t0
 clear ha hr x9 y9 HPS9 
 have h := skip_no HPS10.out.rdr tLeft HTL.out
 unfold tLeft at h
 have HE := Hd h
 clear h
 go_wp2_with (fail)
 refine HE.out.mono ?_
 rintro e w11 ⟨rfl, hb⟩
 clear HE
 have ha := aside_below (B := B) hb
 have hr := HPS10.out.rdr.below hb
 clear hb
 have HPS11 := Hd (HPS10.out.step HBL.out ha hr)
 have x11 := HPS11.out.p0
 have y11 := HPS11.out.t0
 clear ha hr x10 y10 HPS10 
 have h := skip_no HPS11.out.rdr tRelease HTR.out
 unfold tRelease at h
 have HE := Hd h
 clear h
 go_wp2_with (fail)
 refine HE.out.mono ?_
 rintro e w12 ⟨rfl, hb⟩
 clear HE
 have ha := aside_below (B := B) hb
 have hr := HPS11.out.rdr.below hb
 clear hb
 have HPS12 := Hd (HPS11.out.step HBL.out ha hr)
 have x12 := HPS12.out.p0
 have y12 := HPS12.out.t0
 clear ha hr x11 y11 HPS11 
 have HE := Hd (tname_calls HPS12.out.rdr)
 go_wp2_with (fail)
 refine HE.out.mono ?_
 rintro e w13 ⟨ha, vz, s9, rfl, hr, rfl, ht⟩
 rw [HNM.out] at hr
 clear HE ht
 have HPS13 := Hd (HPS12.out.step HBL.out ha hr)
 have x13 := HPS13.out.p0
 have y13 := HPS13.out.t0
 clear ha hr x12 y12 HPS12 
 have h := sees_calls HPS13.out.rdr tLeft
 rw [HLL.out] at h
 unfold tLeft at h
 have HE := Hd h
 clear h
 go_wp2_with (fail)
 refine HE.out.mono ?_
 rintro e w14 ⟨rfl, hb⟩
 have ha := aside_below (B := B) hb
 have hr := HPS13.out.rdr.below hb
 clear HE hb
 have HPS14 := Hd (HPS13.out.step HBL.out ha hr)
 have x14 := HPS14.out.p0
 have y14 := HPS14.out.t0
 clear ha hr x13 y13 HPS13 
 obtain ⟨e0, e1, e2, e3, e4, e5, e6⟩ := HPS14.out.res.cells7
 obtain ⟨f0, f1, f2, f3, f4, f5, f6⟩ := HPS14.out.res.fz7
 have ty1 := HPS14.out.t1
 have ty2 := HPS14.out.t2
 go_wp2_with (fail)
 exact HPS14.out.ret HAL.out HBL.out HTK.out rfl (exIs_leaf _ _ _ _ _ _) (HG.out _)
theorem one_call (h : Txr w B T E tv (.go k) bl al) (hal : al < 12) (h2 : (tkNext T k).1 ≠ 2) (htt : tkIs T k tTrue = false) (htf : tkIs T k tFalse = false) (htm : tkIs T k tMinus = false) (htn : tkIs T k tNot = false) (htl : tkIs T k tLeft = false) (htr : tkIs T k tRelease = false) {prim : Nat → Rs Ex} (hx : TReads B T E tv bl (al + 1) 71 (exprL T prim 5)) (h1 : (tkNext T k).1 = 1) (hl : tkIs T (k + 1) tLeft = true) (hp : p k = (argsP T E prim (k + 1)).bind fun l k2 => .ok (.mk 4 (tkNext T k).2.1 0 0 (tkNext T k).2.2 [] l) k2) :
 Calls Tryz.prog 146 #[.pointer (some ⟨B, 0, none⟩)] w (TDoes w B T E tv (.go k) bl al ExIs p) := by
 have hmf := mf_run
 have HL := Hd h.len
 have HBL : Hid (B < w.heap.size) := h.lt
 have HAL := Hd hal
 have HTK := Hd h.toks
 have HTT : Hid ((TS.go k).is T tTrue = false) := htt
 clear htt
 have HTF : Hid ((TS.go k).is T tFalse = false) := htf
 clear htf
 have HTM : Hid ((TS.go k).is T tMinus = false) := htm
 clear htm
 have HTN : Hid ((TS.go k).is T tNot = false) := htn
 clear htn
 have HTL : Hid ((TS.go k).is T tLeft = false) := htl
 clear htl
 have HTR : Hid ((TS.go k).is T tRelease = false) := htr
 clear htr
 have HXX := Hd hx
 clear hx
 have HNM : Hid ((TS.go k).run (nameP T E) = .go (k + 1) ∧ ∀ x, (TS.go k).tells (nameP T E) x → (tkNext T k).2.2 = x) := ⟨tname_run h1, fun x hx => (hx k (tkNext T k).2.2 (k + 1) rfl (by unfold nameP; rw [if_pos h1])).symm⟩
 have HLL : Hid ((TS.go (k + 1)).is T tLeft = true) := hl
 have HG : Hid (Goes (.go k) p (.go (k + 1)) fun j => (argsP T E prim j).bind fun l k2 => .ok (.mk 4 (tkNext T k).2.1 0 0 (tkNext T k).2.2 [] l) k2) := Goes.start hp
 clear hl hp h1
 obtain ⟨W2, eW⟩ : ∃ W2, (w.alloc (.cells #[.pointer (some ⟨B, 0, none⟩)] 104)).alloc (.cells #[.int .i64 0, .int .i64 0, .int .i64 0, .int .i64 0, .string ⟨#[]⟩, .slice none 0 0, .slice none 0 0] 26) = W2 := ⟨_, rfl⟩
 obtain ⟨z2, hb2, m0, m1⟩ := boxes2 eW
 have hP2 : Blk W2 w.heap.size [.pointer (some ⟨B, 0, none⟩)] 104 := by rw [← eW]; exact (Blk.new _ _ _).below ((Below.refl _ _).alloc (Nat.le_refl _) _)
 have hE2 : Blk W2 (w.heap.size + 1) zeroC 26 := by rw [← eW]; exact Blk.new2 _ _ _ _ _
 have g2 : W2.cell? ⟨w.heap.size, 0, none⟩ = some (.pointer (some ⟨B, 0, none⟩)) := hP2.cell 0
 have hr2 := h.below hb2
 have HNB : Hid (w.heap.size ≠ B ∧ w.heap.size + 1 ≠ B) := by have := h.lt; unfold Hid; omega
 have c3 := hr2.c3
 have c6 := hr2.c6
 have f6 := hr2.fz 6
 simp only [TS.c] at c3
 have hlt : (al : Int) < 12 := by omega
 have HD12 : Hid (decide ((12 : Int) ≤ (al : Int)) = false) := decide_eq_false (by omega)
 obtain ⟨W4, eW4⟩ : ∃ W, W2.setCell ⟨B, 6, none⟩ (.int .i64 ((al : Int) + 1)) = W := ⟨_, rfl⟩
 have ha4 : Aside1 B W2 W4 := by rw [← eW4]; exact aside_set _ _
 have HR4 : Hid (Txr W4 B T E tv (.go k) bl (al + 1)) := by unfold Hid; rw [← eW4]; exact hr2.setAl (al + 1)
 have HA4 := Hd ((aside_below (B := B) hb2).trans ha4)
 have HP4 := Hd (hP2.aside ha4 HNB.out.1)
 have HE4 := Hd (hE2.aside ha4 HNB.out.2)
 have HZ4 : Hid (w.heap.size + 1 < W4.heap.size) := HE4.out.lt
 have g4 : W4.cell? ⟨w.heap.size, 0, none⟩ = some (.pointer (some ⟨B, 0, none⟩)) := HP4.out.cell 0
 have HNX : Hid (Calls Tryz.prog 148 #[.pointer (some ⟨B, 0, none⟩)] W4 fun e w' => e = .returned (.agg #[.int .i64 (tkNext T k).1, .int .i64 (tkNext T k).2.1, .string (tkNext T k).2.2]) ∧ Below W4.heap.size W4 w') := peek_calls HR4.out
 generalize tkNext T k = t at *
 obtain ⟨t0, t1, t2⟩ := t
 have hk2 : (t0 == 2) = false := beq_false_of_ne (by simpa using h2)
 clear h2
 clear h hal hP2 hE2 hb2 hr2 m0 m1 z2 ha4
 go_enter_defers Tryz.func146, Tryz.ntmps146
 go_upto_if 21 with fail
 try rw [HD12.out]
 have hw9 : (al : Int) + 1 ≤ 9223372036854775807 := by omega
 clear hlt
 go_wp2_with (fail)
 clear eW eW4 c3 c6 f6 g2 hw9
 refine HNX.out.mono ?_
 rintro e w5 ⟨rfl, hb5⟩
 obtain ⟨W6, eW6⟩ : ∃ W6, w5.alloc (.cells #[.int .i64 t0, .int .i64 t1, .string t2] 153) = W6 := ⟨_, rfl⟩
 have hb6 : Below w5.heap.size w5 W6 := by rw [← eW6]; exact (Below.refl _ _).alloc (Nat.le_refl _) _
 have hb56 := hb5.trans (hb6.mono hb5.size)
 have HPS6 : Hid (TP w W6 w5.heap.size B T E tv bl al (t0, t1, t2) (.go k)) := ⟨HR4.out.below hb56, HA4.out.trans (aside_below hb56), HP4.out.below hb56, HE4.out.below hb56, by rw [← eW6]; exact Blk.new _ _ _, by have := HZ4.out; have := hb5.size; omega⟩
 have x0 := HPS6.out.p0
 have y0 := HPS6.out.t0
 clear hb5 hb6 hb56 HR4 HA4 HP4 HE4 HZ4 g4 HNX
 have h := skip_no HPS6.out.rdr tTrue HTT.out
 unfold tTrue at h
 have HE := Hd h
 clear h
 go_wp2_with (fail)
 refine HE.out.mono ?_
 rintro e w7 ⟨rfl, hb⟩
 clear HE
 have ha := aside_below (B := B) hb
 have hr := HPS6.out.rdr.below hb
 clear hb
 have HPS7 := Hd (HPS6.out.step HBL.out ha hr)
 have x7 := HPS7.out.p0
 have y7 := HPS7.out.t0
 clear ha hr x0 y0 HPS6 
 have h := skip_no HPS7.out.rdr tFalse HTF.out
 unfold tFalse at h
 have HE := Hd h
 clear h
 go_wp2_with (fail)
 refine HE.out.mono ?_
 rintro e w8 ⟨rfl, hb⟩
 clear HE
 have ha := aside_below (B := B) hb
 have hr := HPS7.out.rdr.below hb
 clear hb
 have HPS8 := Hd (HPS7.out.step HBL.out ha hr)
 have x8 := HPS8.out.p0
 have y8 := HPS8.out.t0
 clear ha hr x7 y7 HPS7 
 have h := skip_no HPS8.out.rdr tMinus HTM.out
 unfold tMinus at h
 have HE := Hd h
 clear h
 go_wp2_with (fail)
 refine HE.out.mono ?_
 rintro e w9 ⟨rfl, hb⟩
 clear HE
 have ha := aside_below (B := B) hb
 have hr := HPS8.out.rdr.below hb
 clear hb
 have HPS9 := Hd (HPS8.out.step HBL.out ha hr)
 have x9 := HPS9.out.p0
 have y9 := HPS9.out.t0
 clear ha hr x8 y8 HPS8 
 have h := skip_no HPS9.out.rdr tNot HTN.out
 unfold tNot at h
 have HE := Hd h
 clear h
 go_wp2_with (fail)
 refine HE.out.mono ?_
 rintro e w10 ⟨rfl, hb⟩
 clear HE
 have ha := aside_below (B := B) hb
 have hr := HPS9.out.rdr.below hb
 clear hb
 have HPS10 := Hd (HPS9.out.step HBL.out ha hr)
 have x10 := HPS10.out.p0
 have y10 := HPS10.out.t0
 clear ha hr x9 y9 HPS9 
 have h := skip_no HPS10.out.rdr tLeft HTL.out
 unfold tLeft at h
 have HE := Hd h
 clear h
 go_wp2_with (fail)
 refine HE.out.mono ?_
 rintro e w11 ⟨rfl, hb⟩
 clear HE
 have ha := aside_below (B := B) hb
 have hr := HPS10.out.rdr.below hb
 clear hb
 have HPS11 := Hd (HPS10.out.step HBL.out ha hr)
 have x11 := HPS11.out.p0
 have y11 := HPS11.out.t0
 clear ha hr x10 y10 HPS10 
 have h := skip_no HPS11.out.rdr tRelease HTR.out
 unfold tRelease at h
 have HE := Hd h
 clear h
 go_wp2_with (fail)
 refine HE.out.mono ?_
 rintro e w12 ⟨rfl, hb⟩
 clear HE
 have ha := aside_below (B := B) hb
 have hr := HPS11.out.rdr.below hb
 clear hb
 have HPS12 := Hd (HPS11.out.step HBL.out ha hr)
 have x12 := HPS12.out.p0
 have y12 := HPS12.out.t0
 clear ha hr x11 y11 HPS11 
 have HE := Hd (tname_calls HPS12.out.rdr)
 go_wp2_with (fail)
 refine HE.out.mono ?_
 rintro e w13 ⟨ha, vz, s9, rfl, hr, rfl, ht⟩
 obtain rfl := HNM.out.2 _ ht
 rw [HNM.out.1] at hr
 clear HE ht
 have HPS13 := Hd (HPS12.out.step HBL.out ha hr)
 have x13 := HPS13.out.p0
 have y13 := HPS13.out.t0
 clear ha hr x12 y12 HPS12 
 have h := sees_calls HPS13.out.rdr tLeft
 rw [HLL.out] at h
 unfold tLeft at h
 have HE := Hd h
 clear h
 go_wp2_with (fail)
 refine HE.out.mono ?_
 rintro e w14 ⟨rfl, hb⟩
 have ha := aside_below (B := B) hb
 have hr := HPS13.out.rdr.below hb
 clear HE hb
 have HPS14 := Hd (HPS13.out.step HBL.out ha hr)
 have x14 := HPS14.out.p0
 have y14 := HPS14.out.t0
 clear ha hr x13 y13 HPS13 
 go_wp2_with (fail)
 have HS : Hid (∀ W, Aside1 B w14 W → W.cell? ⟨w.heap.size, 0, none⟩ = some (.pointer (some ⟨B, 0, none⟩)) ∧ W.cell? ⟨w5.heap.size, 1, none⟩ = some (.int .i64 t1) ∧ W.cell? ⟨w5.heap.size, 2, none⟩ = some (.string t2)) := fun W ha => ⟨(HPS14.out.ptr.aside ha (by have h1 := HBL.out; omega)).cell 0, (HPS14.out.tok.aside ha (by have h1 := HBL.out; have h2 := HPS14.out.old; omega)).cell 1, (HPS14.out.tok.aside ha (by have h1 := HBL.out; have h2 := HPS14.out.old; omega)).cell 2⟩
 have HD : Hid (Aside1 B w14 w14.drew ∧ Txr w14.drew B T E tv (.go (k + 1)) bl (al + 1)) := ⟨aside_below (below_drew1 _), HPS14.out.rdr.below (below_drew1 _)⟩
 have HE := Hd (targs_calls HD.out.2 HXX.out)
 refine wp_region_noPanic ?_
 refine wp_region_held_drew (S := fun w' => w'.cell? ⟨w.heap.size, 0, none⟩ = some (.pointer (some ⟨B, 0, none⟩)) ∧ w'.cell? ⟨w5.heap.size, 1, none⟩ = some (.int .i64 t1) ∧ w'.cell? ⟨w5.heap.size, 2, none⟩ = some (.string t2)) (by kernel_rfl) ?_ (fun hHeld => ?_)
 · exact HS.out _ HD.out.1
 refine wpAnyH_take (i := 0) (v := ?v0x1) rfl (by kernel_rfl) (by kernel_rfl) (by kernel_rfl) (fun _ _ _ h => h) (Or.inl ⟨by rfl, ?h0x1⟩) (by assumption) ?r0x1
 case h0x1 => (intro w hSw; (try dsimp only at hSw); first | (go_simp; done) | (go_simp; with_reducible rfl))
 try simp only [Act.put, List.setIfInBounds_toArray, List.set_cons_zero, List.set_cons_succ]
 refine wpAnyH_take (i := 1) (v := ?v1x2) rfl (by kernel_rfl) (by kernel_rfl) (by kernel_rfl) (fun _ _ _ h => h) (Or.inl ⟨by rfl, ?h1x2⟩) (by assumption) ?r1x2
 case h1x2 => (intro w hSw; (try dsimp only at hSw); first | (go_simp; done) | (go_simp; with_reducible rfl))
 try simp only [Act.put, List.setIfInBounds_toArray, List.set_cons_zero, List.set_cons_succ]
 refine wpAnyH_take (i := 2) (v := ?v2x3) rfl (by kernel_rfl) (by kernel_rfl) (by kernel_rfl) (fun _ _ _ h => h) (Or.inl ⟨by rfl, ?h2x3⟩) (by assumption) ?r2x3
 case h2x3 => (intro w hSw; (try dsimp only at hSw); first | (go_simp; done) | (go_simp; with_reducible rfl))
 try simp only [Act.put, List.setIfInBounds_toArray, List.set_cons_zero, List.set_cons_succ]
 refine wpAnyH_take (i := 3) (v := ?v3x4) rfl (by kernel_rfl) (by kernel_rfl) (by kernel_rfl) (fun _ _ _ h => h) (Or.inl ⟨by rfl, ?h3x4⟩) (by assumption) ?r3x4
 case h3x4 => (intro w hSw; (try dsimp only at hSw); first | (go_simp; done) | (go_simp; with_reducible rfl))
 try simp only [Act.put, List.setIfInBounds_toArray, List.set_cons_zero, List.set_cons_succ]
 refine wpAnyH_ready (rs := [4]) (by kernel_rfl) (by simp) ?_
 refine AllReadyH.cons rfl (fun K hK => ?_) AllReadyH.nil
 go_simp
 go_at_call 199
 refine HE.out.mono ?_
 rintro e wf ⟨ha, va, l, rfl, hr, hs, ht⟩
 replace HG := Hd (HG.out.step ht)
 clear ht
 have HSX : Hid (Exs (since (w.heap.size + 2) wf) l va) := SliceOf.stays exE_stays (since_mono _ (by have h1 := HPS14.out.res.lt; have h3 : w14.drew.heap.size = w14.heap.size := rfl; omega)) hs
 obtain ⟨pa, ca, rfl, _⟩ := hs
 have HZ1 := Hd (HD.out.1.trans ha)
 have HPSK := Hd (HPS14.out.step HBL.out HZ1.out hr)
 have HRES : Hid (ExIs (since (w.heap.size + 2) wf) (.mk 4 t1 0 0 t2 [] l) (.agg #[.int .i64 4, .int .i64 t1, .int .i64 0, .int .i64 0, .string t2, .slice none 0 0, .slice pa l.length ca])) := ⟨_, _, rfl, ⟨none, 0, rfl, Nat.le_refl _, by unfold maxLen; decide, .inl rfl⟩, HSX.out⟩
 obtain ⟨e0, e1, e2, e3, e4, e5, e6⟩ := HPSK.out.res.cells7
 obtain ⟨f0, f1, f2, f3, f4, f5, f6⟩ := HPSK.out.res.fz7
 clear ha hr
 have HSE : Hid ((sev wf (w.heap.size + 1) (.int .i64 4) (.int .i64 t1) (.int .i64 0) (.int .i64 0) (.string t2) (.slice none 0 0) (.slice pa l.length ca)).cell? ⟨w.heap.size, 0, none⟩ = some (.pointer (some ⟨B, 0, none⟩)) ∧ (sev wf (w.heap.size + 1) (.int .i64 4) (.int .i64 t1) (.int .i64 0) (.int .i64 0) (.string t2) (.slice none 0 0) (.slice pa l.length ca)).cell? ⟨w5.heap.size, 1, none⟩ = some (.int .i64 t1) ∧ (sev wf (w.heap.size + 1) (.int .i64 4) (.int .i64 t1) (.int .i64 0) (.int .i64 0) (.string t2) (.slice none 0 0) (.slice pa l.length ca)).cell? ⟨w5.heap.size, 2, none⟩ = some (.string t2)) := tsev_keeps HPSK.out
 go_wp2_with (fail)
 refine hK.out _ _ ?_ (fun hHeld => ?_)
 · exact HS.out _ HZ1.out
 clear hK K
 try simp only [Act.put, List.setIfInBounds_toArray, List.set_cons_zero, List.set_cons_succ]
 refine wpAnyH_take (i := 5) (v := ?v5x5) rfl (by kernel_rfl) (by kernel_rfl) (by kernel_rfl) (fun _ _ _ h => h) (Or.inl ⟨by rfl, ?h5x5⟩) (by assumption) ?r5x5
 case h5x5 => (intro w hSw; (try dsimp only at hSw); first | (go_simp; done) | (go_simp; with_reducible rfl))
 try simp only [Act.put, List.setIfInBounds_toArray, List.set_cons_zero, List.set_cons_succ]
 refine wpAnyH_ready (rs := [6]) (by kernel_rfl) (by simp) ?_
 refine AllReadyH.cons rfl (fun K hK => ?_) AllReadyH.nil
 go_simp
 refine hK.out _ _ ?_ (fun hHeld => ?_)
 · exact HSE.out
 clear hK K
 try simp only [Act.put, List.setIfInBounds_toArray, List.set_cons_zero, List.set_cons_succ]
 refine wpAnyH_done (by kernel_rfl) ?_ _
 refine NoPanic.normal ?_
 go_wp2_with (fail)
 exact HPSK.out.ret HAL.out HBL.out HTK.out rfl HRES.out HG.out
theorem one_neg (h : Txr w B T E tv (.go k) bl al) (hal : al < 12) (h2 : (tkNext T k).1 ≠ 2) (htt : tkIs T k tTrue = false) (htf : tkIs T k tFalse = false) (htm : tkIs T k tMinus = true) {prim : Nat → Rs Ex} (hx : TReads B T E tv bl (al + 1) 146 prim) (hp : p k = (prim (k + 1)).bind fun x k2 => .ok (.mk 3 (tkNext T k).2.1 0 0 (tkNext T k).2.2 [] [x]) k2) :
 Calls Tryz.prog 146 #[.pointer (some ⟨B, 0, none⟩)] w (TDoes w B T E tv (.go k) bl al ExIs p) := by
 have hmf := mf_run
 have HL := Hd h.len
 have HBL : Hid (B < w.heap.size) := h.lt
 have HAL := Hd hal
 have HTK := Hd h.toks
 have HTT : Hid ((TS.go k).is T tTrue = false) := htt
 clear htt
 have HTF : Hid ((TS.go k).is T tFalse = false) := htf
 clear htf
 have HTM : Hid ((TS.go k).is T tMinus = true) := htm
 clear htm
 have HXX := Hd hx
 clear hx
 have HG : Hid (Goes (.go k) p (.go (k + 1)) fun j => (prim j).bind fun x k2 => .ok (.mk 3 (tkNext T k).2.1 0 0 (tkNext T k).2.2 [] [x]) k2) := Goes.start hp
 clear hp
 obtain ⟨W2, eW⟩ : ∃ W2, (w.alloc (.cells #[.pointer (some ⟨B, 0, none⟩)] 104)).alloc (.cells #[.int .i64 0, .int .i64 0, .int .i64 0, .int .i64 0, .string ⟨#[]⟩, .slice none 0 0, .slice none 0 0] 26) = W2 := ⟨_, rfl⟩
 obtain ⟨z2, hb2, m0, m1⟩ := boxes2 eW
 have hP2 : Blk W2 w.heap.size [.pointer (some ⟨B, 0, none⟩)] 104 := by rw [← eW]; exact (Blk.new _ _ _).below ((Below.refl _ _).alloc (Nat.le_refl _) _)
 have hE2 : Blk W2 (w.heap.size + 1) zeroC 26 := by rw [← eW]; exact Blk.new2 _ _ _ _ _
 have g2 : W2.cell? ⟨w.heap.size, 0, none⟩ = some (.pointer (some ⟨B, 0, none⟩)) := hP2.cell 0
 have hr2 := h.below hb2
 have HNB : Hid (w.heap.size ≠ B ∧ w.heap.size + 1 ≠ B) := by have := h.lt; unfold Hid; omega
 have c3 := hr2.c3
 have c6 := hr2.c6
 have f6 := hr2.fz 6
 simp only [TS.c] at c3
 have hlt : (al : Int) < 12 := by omega
 have HD12 : Hid (decide ((12 : Int) ≤ (al : Int)) = false) := decide_eq_false (by omega)
 obtain ⟨W4, eW4⟩ : ∃ W, W2.setCell ⟨B, 6, none⟩ (.int .i64 ((al : Int) + 1)) = W := ⟨_, rfl⟩
 have ha4 : Aside1 B W2 W4 := by rw [← eW4]; exact aside_set _ _
 have HR4 : Hid (Txr W4 B T E tv (.go k) bl (al + 1)) := by unfold Hid; rw [← eW4]; exact hr2.setAl (al + 1)
 have HA4 := Hd ((aside_below (B := B) hb2).trans ha4)
 have HP4 := Hd (hP2.aside ha4 HNB.out.1)
 have HE4 := Hd (hE2.aside ha4 HNB.out.2)
 have HZ4 : Hid (w.heap.size + 1 < W4.heap.size) := HE4.out.lt
 have g4 : W4.cell? ⟨w.heap.size, 0, none⟩ = some (.pointer (some ⟨B, 0, none⟩)) := HP4.out.cell 0
 have HNX : Hid (Calls Tryz.prog 148 #[.pointer (some ⟨B, 0, none⟩)] W4 fun e w' => e = .returned (.agg #[.int .i64 (tkNext T k).1, .int .i64 (tkNext T k).2.1, .string (tkNext T k).2.2]) ∧ Below W4.heap.size W4 w') := peek_calls HR4.out
 generalize tkNext T k = t at *
 obtain ⟨t0, t1, t2⟩ := t
 have hk2 : (t0 == 2) = false := beq_false_of_ne (by simpa using h2)
 clear h2
 clear h hal hP2 hE2 hb2 hr2 m0 m1 z2 ha4
 go_enter_defers Tryz.func146, Tryz.ntmps146
 go_upto_if 21 with fail
 try rw [HD12.out]
 have hw9 : (al : Int) + 1 ≤ 9223372036854775807 := by omega
 clear hlt
 go_wp2_with (fail)
 clear eW eW4 c3 c6 f6 g2 hw9
 refine HNX.out.mono ?_
 rintro e w5 ⟨rfl, hb5⟩
 obtain ⟨W6, eW6⟩ : ∃ W6, w5.alloc (.cells #[.int .i64 t0, .int .i64 t1, .string t2] 153) = W6 := ⟨_, rfl⟩
 have hb6 : Below w5.heap.size w5 W6 := by rw [← eW6]; exact (Below.refl _ _).alloc (Nat.le_refl _) _
 have hb56 := hb5.trans (hb6.mono hb5.size)
 have HPS6 : Hid (TP w W6 w5.heap.size B T E tv bl al (t0, t1, t2) (.go k)) := ⟨HR4.out.below hb56, HA4.out.trans (aside_below hb56), HP4.out.below hb56, HE4.out.below hb56, by rw [← eW6]; exact Blk.new _ _ _, by have := HZ4.out; have := hb5.size; omega⟩
 have x0 := HPS6.out.p0
 have y0 := HPS6.out.t0
 clear hb5 hb6 hb56 HR4 HA4 HP4 HE4 HZ4 g4 HNX
 have h := skip_no HPS6.out.rdr tTrue HTT.out
 unfold tTrue at h
 have HE := Hd h
 clear h
 go_wp2_with (fail)
 refine HE.out.mono ?_
 rintro e w7 ⟨rfl, hb⟩
 clear HE
 have ha := aside_below (B := B) hb
 have hr := HPS6.out.rdr.below hb
 clear hb
 have HPS7 := Hd (HPS6.out.step HBL.out ha hr)
 have x7 := HPS7.out.p0
 have y7 := HPS7.out.t0
 clear ha hr x0 y0 HPS6 
 have h := skip_no HPS7.out.rdr tFalse HTF.out
 unfold tFalse at h
 have HE := Hd h
 clear h
 go_wp2_with (fail)
 refine HE.out.mono ?_
 rintro e w8 ⟨rfl, hb⟩
 clear HE
 have ha := aside_below (B := B) hb
 have hr := HPS7.out.rdr.below hb
 clear hb
 have HPS8 := Hd (HPS7.out.step HBL.out ha hr)
 have x8 := HPS8.out.p0
 have y8 := HPS8.out.t0
 clear ha hr x7 y7 HPS7 
 have h := skip_yes HPS8.out.rdr tMinus HTM.out
 unfold tMinus at h
 have HE := Hd h
 clear h
 go_wp2_with (fail)
 refine HE.out.mono ?_
 rintro e w9 ⟨rfl, ha, hr⟩
 clear HE
 have HPS9 := Hd (HPS8.out.step HBL.out ha hr)
 have x9 := HPS9.out.p0
 have y9 := HPS9.out.t0
 clear ha hr x8 y8 HPS8 
 go_wp2_with (fail)
 have HS : Hid (∀ W, Aside1 B w9 W → W.cell? ⟨w.heap.size, 0, none⟩ = some (.pointer (some ⟨B, 0, none⟩)) ∧ W.cell? ⟨w5.heap.size, 1, none⟩ = some (.int .i64 t1) ∧ W.cell? ⟨w5.heap.size, 2, none⟩ = some (.string t2)) := fun W ha => ⟨(HPS9.out.ptr.aside ha (by have h1 := HBL.out; omega)).cell 0, (HPS9.out.tok.aside ha (by have h1 := HBL.out; have h2 := HPS9.out.old; omega)).cell 1, (HPS9.out.tok.aside ha (by have h1 := HBL.out; have h2 := HPS9.out.old; omega)).cell 2⟩
 have HD : Hid (Aside1 B w9 w9.drew ∧ Txr w9.drew B T E tv (.go (k + 1)) bl (al + 1)) := ⟨aside_below (below_drew1 _), HPS9.out.rdr.below (below_drew1 _)⟩
 have HE := Hd (HXX.out _ _ HD.out.2)
 refine wp_region_noPanic ?_
 refine wp_region_held_drew (S := fun w' => w'.cell? ⟨w.heap.size, 0, none⟩ = some (.pointer (some ⟨B, 0, none⟩)) ∧ w'.cell? ⟨w5.heap.size, 1, none⟩ = some (.int .i64 t1) ∧ w'.cell? ⟨w5.heap.size, 2, none⟩ = some (.string t2)) (by kernel_rfl) ?_ (fun hHeld => ?_)
 · exact HS.out _ HD.out.1
 refine wpAnyH_take (i := 0) (v := ?v0x1) rfl (by kernel_rfl) (by kernel_rfl) (by kernel_rfl) (fun _ _ _ h => h) (Or.inl ⟨by rfl, ?h0x1⟩) (by assumption) ?r0x1
 case h0x1 => (intro w hSw; (try dsimp only at hSw); first | (go_simp; done) | (go_simp; with_reducible rfl))
 try simp only [Act.put, List.setIfInBounds_toArray, List.set_cons_zero, List.set_cons_succ]
 refine wpAnyH_take (i := 1) (v := ?v1x2) rfl (by kernel_rfl) (by kernel_rfl) (by kernel_rfl) (fun _ _ _ h => h) (Or.inl ⟨by rfl, ?h1x2⟩) (by assumption) ?r1x2
 case h1x2 => (intro w hSw; (try dsimp only at hSw); first | (go_simp; done) | (go_simp; with_reducible rfl))
 try simp only [Act.put, List.setIfInBounds_toArray, List.set_cons_zero, List.set_cons_succ]
 refine wpAnyH_take (i := 2) (v := ?v2x3) rfl (by kernel_rfl) (by kernel_rfl) (by kernel_rfl) (fun _ _ _ h => h) (Or.inl ⟨by rfl, ?h2x3⟩) (by assumption) ?r2x3
 case h2x3 => (intro w hSw; (try dsimp only at hSw); first | (go_simp; done) | (go_simp; with_reducible rfl))
 try simp only [Act.put, List.setIfInBounds_toArray, List.set_cons_zero, List.set_cons_succ]
 refine wpAnyH_take (i := 3) (v := ?v3x4) rfl (by kernel_rfl) (by kernel_rfl) (by kernel_rfl) (fun _ _ _ h => h) (Or.inl ⟨by rfl, ?h3x4⟩) (by assumption) ?r3x4
 case h3x4 => (intro w hSw; (try dsimp only at hSw); first | (go_simp; done) | (go_simp; with_reducible rfl))
 try simp only [Act.put, List.setIfInBounds_toArray, List.set_cons_zero, List.set_cons_succ]
 refine wpAnyH_take (i := 4) (v := ?v4x5) rfl (by kernel_rfl) (by kernel_rfl) (by kernel_rfl) (fun _ _ _ h => h) (Or.inl ⟨by rfl, ?h4x5⟩) (by assumption) ?r4x5
 case h4x5 => (intro w hSw; (try dsimp only at hSw); first | (go_simp; done) | (go_simp; with_reducible rfl))
 try simp only [Act.put, List.setIfInBounds_toArray, List.set_cons_zero, List.set_cons_succ]
 refine wpAnyH_ready (rs := [5]) (by kernel_rfl) (by simp) ?_
 refine AllReadyH.cons rfl (fun K hK => ?_) AllReadyH.nil
 go_simp
 go_at_call 146
 refine HE.out.mono ?_
 rintro e wj ⟨ha, vx, x, rfl, hr, hx, ht⟩
 replace HG := Hd (HG.out.step ht)
 clear ht
 have HXF := Hd (hx.stays (since_mono _ (show w.heap.size + 2 ≤ w9.drew.heap.size from by have h1 := HPS9.out.res.lt; have h3 : w9.drew.heap.size = w9.heap.size := rfl; omega)))
 obtain ⟨vl, va, rfl, hvl, hva⟩ := hx
 obtain ⟨pl, cl, rfl, _⟩ := hvl
 obtain ⟨pa, ca, rfl, _⟩ := hva
 have HZ0 := Hd (HD.out.1.trans ha)
 have HPSJ := Hd (HPS9.out.step HBL.out HZ0.out hr)
 obtain ⟨wf, eW⟩ : ∃ W, wj.alloc (.cells #[.int .i64 x.kind, .int .i64 x.at_, .int .i64 x.num, .int .i64 x.ty, .string x.name, .slice pl x.lab.length cl, .slice pa x.kids.length ca] 26) = W := ⟨_, rfl⟩
 have hbk : Below wj.heap.size wj wf := by rw [← eW]; exact (Below.refl _ _).alloc (Nat.le_refl _) _
 have HZ1 := Hd (HZ0.out.trans (aside_below hbk))
 have HPSK := Hd (HPSJ.out.below HBL.out hbk)
 have hBK : Blk wf wj.heap.size (exC x (.slice pl x.lab.length cl) (.slice pa x.kids.length ca)) 26 := by rw [← eW]; exact Blk.new _ _ _
 have hks : Keeps (since (w.heap.size + 2) wj) (since (w.heap.size + 2) wf) := keeps_hide hbk.size fun b hb hp => ⟨hp, hbk.block b hb⟩
 have HRES : Hid (ExIs (since (w.heap.size + 2) wf) (.mk 3 t1 0 0 t2 [] [x]) (.agg #[.int .i64 3, .int .i64 t1, .int .i64 0, .int .i64 0, .string t2, .slice none 0 0, .slice (some ⟨wj.heap.size, 0, none⟩) 1 1])) := ⟨_, _, rfl, ⟨none, 0, rfl, Nat.le_refl _, by unfold maxLen; decide, .inl rfl⟩, exs_one (HXF.out.stays hks) hBK (by have h1 := HPSJ.out.res.lt; omega)⟩
 clear hbk hBK hks
 obtain ⟨e0, e1, e2, e3, e4, e5, e6⟩ := HPSK.out.res.cells7
 obtain ⟨f0, f1, f2, f3, f4, f5, f6⟩ := HPSK.out.res.fz7
 clear ha hr
 have HSE : Hid ((sev wf (w.heap.size + 1) (.int .i64 3) (.int .i64 t1) (.int .i64 0) (.int .i64 0) (.string t2) (.slice none 0 0) (.slice (some ⟨wj.heap.size, 0, none⟩) 1 1)).cell? ⟨w.heap.size, 0, none⟩ = some (.pointer (some ⟨B, 0, none⟩)) ∧ (sev wf (w.heap.size + 1) (.int .i64 3) (.int .i64 t1) (.int .i64 0) (.int .i64 0) (.string t2) (.slice none 0 0) (.slice (some ⟨wj.heap.size, 0, none⟩) 1 1)).cell? ⟨w5.heap.size, 1, none⟩ = some (.int .i64 t1) ∧ (sev wf (w.heap.size + 1) (.int .i64 3) (.int .i64 t1) (.int .i64 0) (.int .i64 0) (.string t2) (.slice none 0 0) (.slice (some ⟨wj.heap.size, 0, none⟩) 1 1)).cell? ⟨w5.heap.size, 2, none⟩ = some (.string t2)) := tsev_keeps HPSK.out
 go_wp2_with (fail)
 refine hK.out _ _ ?_ (fun hHeld => ?_)
 · exact HS.out _ HZ0.out
 clear hK K
 try simp only [Act.put, List.setIfInBounds_toArray, List.set_cons_zero, List.set_cons_succ]
 refine wpAnyH_ready (rs := [6]) (by kernel_rfl) (by simp) ?_
 refine AllReadyH.cons rfl (fun K hK => ?_) AllReadyH.nil
 go_simp
 refine hK.out _ _ ?_ (fun hHeld => ?_)
 · exact HS.out _ HZ1.out
 clear hK K
 try simp only [Act.put, List.setIfInBounds_toArray, List.set_cons_zero, List.set_cons_succ]
 refine wpAnyH_take (i := 7) (v := ?v7x6) rfl (by kernel_rfl) (by kernel_rfl) (by kernel_rfl) (fun _ _ _ h => h) (Or.inl ⟨by rfl, ?h7x6⟩) (by assumption) ?r7x6
 case h7x6 => (intro w hSw; (try dsimp only at hSw); first | (go_simp; done) | (go_simp; with_reducible rfl))
 try simp only [Act.put, List.setIfInBounds_toArray, List.set_cons_zero, List.set_cons_succ]
 refine wpAnyH_ready (rs := [8]) (by kernel_rfl) (by simp) ?_
 refine AllReadyH.cons rfl (fun K hK => ?_) AllReadyH.nil
 go_simp
 refine hK.out _ _ ?_ (fun hHeld => ?_)
 · exact HSE.out
 clear hK K
 try simp only [Act.put, List.setIfInBounds_toArray, List.set_cons_zero, List.set_cons_succ]
 refine wpAnyH_done (by kernel_rfl) ?_ _
 refine NoPanic.normal ?_
 go_wp2_with (fail)
 exact HPSK.out.ret HAL.out HBL.out HTK.out rfl HRES.out HG.out
theorem one_not (h : Txr w B T E tv (.go k) bl al) (hal : al < 12) (h2 : (tkNext T k).1 ≠ 2) (htt : tkIs T k tTrue = false) (htf : tkIs T k tFalse = false) (htm : tkIs T k tMinus = false) (htn : tkIs T k tNot = true) {prim : Nat → Rs Ex} (hx : TReads B T E tv bl (al + 1) 146 prim) (hp : p k = (prim (k + 1)).bind fun x k2 => .ok (.mk 3 (tkNext T k).2.1 0 0 (tkNext T k).2.2 [] [x]) k2) :
 Calls Tryz.prog 146 #[.pointer (some ⟨B, 0, none⟩)] w (TDoes w B T E tv (.go k) bl al ExIs p) := by
 have hmf := mf_run
 have HL := Hd h.len
 have HBL : Hid (B < w.heap.size) := h.lt
 have HAL := Hd hal
 have HTK := Hd h.toks
 have HTT : Hid ((TS.go k).is T tTrue = false) := htt
 clear htt
 have HTF : Hid ((TS.go k).is T tFalse = false) := htf
 clear htf
 have HTM : Hid ((TS.go k).is T tMinus = false) := htm
 clear htm
 have HTN : Hid ((TS.go k).is T tNot = true) := htn
 clear htn
 have HXX := Hd hx
 clear hx
 have HG : Hid (Goes (.go k) p (.go (k + 1)) fun j => (prim j).bind fun x k2 => .ok (.mk 3 (tkNext T k).2.1 0 0 (tkNext T k).2.2 [] [x]) k2) := Goes.start hp
 clear hp
 obtain ⟨W2, eW⟩ : ∃ W2, (w.alloc (.cells #[.pointer (some ⟨B, 0, none⟩)] 104)).alloc (.cells #[.int .i64 0, .int .i64 0, .int .i64 0, .int .i64 0, .string ⟨#[]⟩, .slice none 0 0, .slice none 0 0] 26) = W2 := ⟨_, rfl⟩
 obtain ⟨z2, hb2, m0, m1⟩ := boxes2 eW
 have hP2 : Blk W2 w.heap.size [.pointer (some ⟨B, 0, none⟩)] 104 := by rw [← eW]; exact (Blk.new _ _ _).below ((Below.refl _ _).alloc (Nat.le_refl _) _)
 have hE2 : Blk W2 (w.heap.size + 1) zeroC 26 := by rw [← eW]; exact Blk.new2 _ _ _ _ _
 have g2 : W2.cell? ⟨w.heap.size, 0, none⟩ = some (.pointer (some ⟨B, 0, none⟩)) := hP2.cell 0
 have hr2 := h.below hb2
 have HNB : Hid (w.heap.size ≠ B ∧ w.heap.size + 1 ≠ B) := by have := h.lt; unfold Hid; omega
 have c3 := hr2.c3
 have c6 := hr2.c6
 have f6 := hr2.fz 6
 simp only [TS.c] at c3
 have hlt : (al : Int) < 12 := by omega
 have HD12 : Hid (decide ((12 : Int) ≤ (al : Int)) = false) := decide_eq_false (by omega)
 obtain ⟨W4, eW4⟩ : ∃ W, W2.setCell ⟨B, 6, none⟩ (.int .i64 ((al : Int) + 1)) = W := ⟨_, rfl⟩
 have ha4 : Aside1 B W2 W4 := by rw [← eW4]; exact aside_set _ _
 have HR4 : Hid (Txr W4 B T E tv (.go k) bl (al + 1)) := by unfold Hid; rw [← eW4]; exact hr2.setAl (al + 1)
 have HA4 := Hd ((aside_below (B := B) hb2).trans ha4)
 have HP4 := Hd (hP2.aside ha4 HNB.out.1)
 have HE4 := Hd (hE2.aside ha4 HNB.out.2)
 have HZ4 : Hid (w.heap.size + 1 < W4.heap.size) := HE4.out.lt
 have g4 : W4.cell? ⟨w.heap.size, 0, none⟩ = some (.pointer (some ⟨B, 0, none⟩)) := HP4.out.cell 0
 have HNX : Hid (Calls Tryz.prog 148 #[.pointer (some ⟨B, 0, none⟩)] W4 fun e w' => e = .returned (.agg #[.int .i64 (tkNext T k).1, .int .i64 (tkNext T k).2.1, .string (tkNext T k).2.2]) ∧ Below W4.heap.size W4 w') := peek_calls HR4.out
 generalize tkNext T k = t at *
 obtain ⟨t0, t1, t2⟩ := t
 have hk2 : (t0 == 2) = false := beq_false_of_ne (by simpa using h2)
 clear h2
 clear h hal hP2 hE2 hb2 hr2 m0 m1 z2 ha4
 go_enter_defers Tryz.func146, Tryz.ntmps146
 go_upto_if 21 with fail
 try rw [HD12.out]
 have hw9 : (al : Int) + 1 ≤ 9223372036854775807 := by omega
 clear hlt
 go_wp2_with (fail)
 clear eW eW4 c3 c6 f6 g2 hw9
 refine HNX.out.mono ?_
 rintro e w5 ⟨rfl, hb5⟩
 obtain ⟨W6, eW6⟩ : ∃ W6, w5.alloc (.cells #[.int .i64 t0, .int .i64 t1, .string t2] 153) = W6 := ⟨_, rfl⟩
 have hb6 : Below w5.heap.size w5 W6 := by rw [← eW6]; exact (Below.refl _ _).alloc (Nat.le_refl _) _
 have hb56 := hb5.trans (hb6.mono hb5.size)
 have HPS6 : Hid (TP w W6 w5.heap.size B T E tv bl al (t0, t1, t2) (.go k)) := ⟨HR4.out.below hb56, HA4.out.trans (aside_below hb56), HP4.out.below hb56, HE4.out.below hb56, by rw [← eW6]; exact Blk.new _ _ _, by have := HZ4.out; have := hb5.size; omega⟩
 have x0 := HPS6.out.p0
 have y0 := HPS6.out.t0
 clear hb5 hb6 hb56 HR4 HA4 HP4 HE4 HZ4 g4 HNX
 have h := skip_no HPS6.out.rdr tTrue HTT.out
 unfold tTrue at h
 have HE := Hd h
 clear h
 go_wp2_with (fail)
 refine HE.out.mono ?_
 rintro e w7 ⟨rfl, hb⟩
 clear HE
 have ha := aside_below (B := B) hb
 have hr := HPS6.out.rdr.below hb
 clear hb
 have HPS7 := Hd (HPS6.out.step HBL.out ha hr)
 have x7 := HPS7.out.p0
 have y7 := HPS7.out.t0
 clear ha hr x0 y0 HPS6 
 have h := skip_no HPS7.out.rdr tFalse HTF.out
 unfold tFalse at h
 have HE := Hd h
 clear h
 go_wp2_with (fail)
 refine HE.out.mono ?_
 rintro e w8 ⟨rfl, hb⟩
 clear HE
 have ha := aside_below (B := B) hb
 have hr := HPS7.out.rdr.below hb
 clear hb
 have HPS8 := Hd (HPS7.out.step HBL.out ha hr)
 have x8 := HPS8.out.p0
 have y8 := HPS8.out.t0
 clear ha hr x7 y7 HPS7 
 have h := skip_no HPS8.out.rdr tMinus HTM.out
 unfold tMinus at h
 have HE := Hd h
 clear h
 go_wp2_with (fail)
 refine HE.out.mono ?_
 rintro e w9 ⟨rfl, hb⟩
 clear HE
 have ha := aside_below (B := B) hb
 have hr := HPS8.out.rdr.below hb
 clear hb
 have HPS9 := Hd (HPS8.out.step HBL.out ha hr)
 have x9 := HPS9.out.p0
 have y9 := HPS9.out.t0
 clear ha hr x8 y8 HPS8 
 have h := skip_yes HPS9.out.rdr tNot HTN.out
 unfold tNot at h
 have HE := Hd h
 clear h
 go_wp2_with (fail)
 refine HE.out.mono ?_
 rintro e w10 ⟨rfl, ha, hr⟩
 clear HE
 have HPS10 := Hd (HPS9.out.step HBL.out ha hr)
 have x10 := HPS10.out.p0
 have y10 := HPS10.out.t0
 clear ha hr x9 y9 HPS9 
 go_wp2_with (fail)
 have HS : Hid (∀ W, Aside1 B w10 W → W.cell? ⟨w.heap.size, 0, none⟩ = some (.pointer (some ⟨B, 0, none⟩)) ∧ W.cell? ⟨w5.heap.size, 1, none⟩ = some (.int .i64 t1) ∧ W.cell? ⟨w5.heap.size, 2, none⟩ = some (.string t2)) := fun W ha => ⟨(HPS10.out.ptr.aside ha (by have h1 := HBL.out; omega)).cell 0, (HPS10.out.tok.aside ha (by have h1 := HBL.out; have h2 := HPS10.out.old; omega)).cell 1, (HPS10.out.tok.aside ha (by have h1 := HBL.out; have h2 := HPS10.out.old; omega)).cell 2⟩
 have HD : Hid (Aside1 B w10 w10.drew ∧ Txr w10.drew B T E tv (.go (k + 1)) bl (al + 1)) := ⟨aside_below (below_drew1 _), HPS10.out.rdr.below (below_drew1 _)⟩
 have HE := Hd (HXX.out _ _ HD.out.2)
 refine wp_region_noPanic ?_
 refine wp_region_held_drew (S := fun w' => w'.cell? ⟨w.heap.size, 0, none⟩ = some (.pointer (some ⟨B, 0, none⟩)) ∧ w'.cell? ⟨w5.heap.size, 1, none⟩ = some (.int .i64 t1) ∧ w'.cell? ⟨w5.heap.size, 2, none⟩ = some (.string t2)) (by kernel_rfl) ?_ (fun hHeld => ?_)
 · exact HS.out _ HD.out.1
 refine wpAnyH_take (i := 0) (v := ?v0x1) rfl (by kernel_rfl) (by kernel_rfl) (by kernel_rfl) (fun _ _ _ h => h) (Or.inl ⟨by rfl, ?h0x1⟩) (by assumption) ?r0x1
 case h0x1 => (intro w hSw; (try dsimp only at hSw); first | (go_simp; done) | (go_simp; with_reducible rfl))
 try simp only [Act.put, List.setIfInBounds_toArray, List.set_cons_zero, List.set_cons_succ]
 refine wpAnyH_take (i := 1) (v := ?v1x2) rfl (by kernel_rfl) (by kernel_rfl) (by kernel_rfl) (fun _ _ _ h => h) (Or.inl ⟨by rfl, ?h1x2⟩) (by assumption) ?r1x2
 case h1x2 => (intro w hSw; (try dsimp only at hSw); first | (go_simp; done) | (go_simp; with_reducible rfl))
 try simp only [Act.put, List.setIfInBounds_toArray, List.set_cons_zero, List.set_cons_succ]
 refine wpAnyH_take (i := 2) (v := ?v2x3) rfl (by kernel_rfl) (by kernel_rfl) (by kernel_rfl) (fun _ _ _ h => h) (Or.inl ⟨by rfl, ?h2x3⟩) (by assumption) ?r2x3
 case h2x3 => (intro w hSw; (try dsimp only at hSw); first | (go_simp; done) | (go_simp; with_reducible rfl))
 try simp only [Act.put, List.setIfInBounds_toArray, List.set_cons_zero, List.set_cons_succ]
 refine wpAnyH_take (i := 3) (v := ?v3x4) rfl (by kernel_rfl) (by kernel_rfl) (by kernel_rfl) (fun _ _ _ h => h) (Or.inl ⟨by rfl, ?h3x4⟩) (by assumption) ?r3x4
 case h3x4 => (intro w hSw; (try dsimp only at hSw); first | (go_simp; done) | (go_simp; with_reducible rfl))
 try simp only [Act.put, List.setIfInBounds_toArray, List.set_cons_zero, List.set_cons_succ]
 refine wpAnyH_take (i := 4) (v := ?v4x5) rfl (by kernel_rfl) (by kernel_rfl) (by kernel_rfl) (fun _ _ _ h => h) (Or.inl ⟨by rfl, ?h4x5⟩) (by assumption) ?r4x5
 case h4x5 => (intro w hSw; (try dsimp only at hSw); first | (go_simp; done) | (go_simp; with_reducible rfl))
 try simp only [Act.put, List.setIfInBounds_toArray, List.set_cons_zero, List.set_cons_succ]
 refine wpAnyH_ready (rs := [5]) (by kernel_rfl) (by simp) ?_
 refine AllReadyH.cons rfl (fun K hK => ?_) AllReadyH.nil
 go_simp
 go_at_call 146
 refine HE.out.mono ?_
 rintro e wj ⟨ha, vx, x, rfl, hr, hx, ht⟩
 replace HG := Hd (HG.out.step ht)
 clear ht
 have HXF := Hd (hx.stays (since_mono _ (show w.heap.size + 2 ≤ w10.drew.heap.size from by have h1 := HPS10.out.res.lt; have h3 : w10.drew.heap.size = w10.heap.size := rfl; omega)))
 obtain ⟨vl, va, rfl, hvl, hva⟩ := hx
 obtain ⟨pl, cl, rfl, _⟩ := hvl
 obtain ⟨pa, ca, rfl, _⟩ := hva
 have HZ0 := Hd (HD.out.1.trans ha)
 have HPSJ := Hd (HPS10.out.step HBL.out HZ0.out hr)
 obtain ⟨wf, eW⟩ : ∃ W, wj.alloc (.cells #[.int .i64 x.kind, .int .i64 x.at_, .int .i64 x.num, .int .i64 x.ty, .string x.name, .slice pl x.lab.length cl, .slice pa x.kids.length ca] 26) = W := ⟨_, rfl⟩
 have hbk : Below wj.heap.size wj wf := by rw [← eW]; exact (Below.refl _ _).alloc (Nat.le_refl _) _
 have HZ1 := Hd (HZ0.out.trans (aside_below hbk))
 have HPSK := Hd (HPSJ.out.below HBL.out hbk)
 have hBK : Blk wf wj.heap.size (exC x (.slice pl x.lab.length cl) (.slice pa x.kids.length ca)) 26 := by rw [← eW]; exact Blk.new _ _ _
 have hks : Keeps (since (w.heap.size + 2) wj) (since (w.heap.size + 2) wf) := keeps_hide hbk.size fun b hb hp => ⟨hp, hbk.block b hb⟩
 have HRES : Hid (ExIs (since (w.heap.size + 2) wf) (.mk 3 t1 0 0 t2 [] [x]) (.agg #[.int .i64 3, .int .i64 t1, .int .i64 0, .int .i64 0, .string t2, .slice none 0 0, .slice (some ⟨wj.heap.size, 0, none⟩) 1 1])) := ⟨_, _, rfl, ⟨none, 0, rfl, Nat.le_refl _, by unfold maxLen; decide, .inl rfl⟩, exs_one (HXF.out.stays hks) hBK (by have h1 := HPSJ.out.res.lt; omega)⟩
 clear hbk hBK hks
 obtain ⟨e0, e1, e2, e3, e4, e5, e6⟩ := HPSK.out.res.cells7
 obtain ⟨f0, f1, f2, f3, f4, f5, f6⟩ := HPSK.out.res.fz7
 clear ha hr
 have HSE : Hid ((sev wf (w.heap.size + 1) (.int .i64 3) (.int .i64 t1) (.int .i64 0) (.int .i64 0) (.string t2) (.slice none 0 0) (.slice (some ⟨wj.heap.size, 0, none⟩) 1 1)).cell? ⟨w.heap.size, 0, none⟩ = some (.pointer (some ⟨B, 0, none⟩)) ∧ (sev wf (w.heap.size + 1) (.int .i64 3) (.int .i64 t1) (.int .i64 0) (.int .i64 0) (.string t2) (.slice none 0 0) (.slice (some ⟨wj.heap.size, 0, none⟩) 1 1)).cell? ⟨w5.heap.size, 1, none⟩ = some (.int .i64 t1) ∧ (sev wf (w.heap.size + 1) (.int .i64 3) (.int .i64 t1) (.int .i64 0) (.int .i64 0) (.string t2) (.slice none 0 0) (.slice (some ⟨wj.heap.size, 0, none⟩) 1 1)).cell? ⟨w5.heap.size, 2, none⟩ = some (.string t2)) := tsev_keeps HPSK.out
 go_wp2_with (fail)
 refine hK.out _ _ ?_ (fun hHeld => ?_)
 · exact HS.out _ HZ0.out
 clear hK K
 try simp only [Act.put, List.setIfInBounds_toArray, List.set_cons_zero, List.set_cons_succ]
 refine wpAnyH_ready (rs := [6]) (by kernel_rfl) (by simp) ?_
 refine AllReadyH.cons rfl (fun K hK => ?_) AllReadyH.nil
 go_simp
 refine hK.out _ _ ?_ (fun hHeld => ?_)
 · exact HS.out _ HZ1.out
 clear hK K
 try simp only [Act.put, List.setIfInBounds_toArray, List.set_cons_zero, List.set_cons_succ]
 refine wpAnyH_take (i := 7) (v := ?v7x6) rfl (by kernel_rfl) (by kernel_rfl) (by kernel_rfl) (fun _ _ _ h => h) (Or.inl ⟨by rfl, ?h7x6⟩) (by assumption) ?r7x6
 case h7x6 => (intro w hSw; (try dsimp only at hSw); first | (go_simp; done) | (go_simp; with_reducible rfl))
 try simp only [Act.put, List.setIfInBounds_toArray, List.set_cons_zero, List.set_cons_succ]
 refine wpAnyH_ready (rs := [8]) (by kernel_rfl) (by simp) ?_
 refine AllReadyH.cons rfl (fun K hK => ?_) AllReadyH.nil
 go_simp
 refine hK.out _ _ ?_ (fun hHeld => ?_)
 · exact HSE.out
 clear hK K
 try simp only [Act.put, List.setIfInBounds_toArray, List.set_cons_zero, List.set_cons_succ]
 refine wpAnyH_done (by kernel_rfl) ?_ _
 refine NoPanic.normal ?_
 go_wp2_with (fail)
 exact HPSK.out.ret HAL.out HBL.out HTK.out rfl HRES.out HG.out
end
end
end Go.Proofs.YtmepcmnpmhhiiaaGreatDoor
