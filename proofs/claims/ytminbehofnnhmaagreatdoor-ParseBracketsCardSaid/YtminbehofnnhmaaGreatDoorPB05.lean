/- Texts of the proof that ParseBrackets holds, part 5; no conditions. -/
import Derived.Test.YtminbehofnnhmaaGreatDoorPB04
namespace Go.Proofs.YtminbehofnnhmaaGreatDoor
set_option linter.unusedVariables false
set_option linter.unusedSimpArgs false
set_option maxHeartbeats 8000000
set_option maxRecDepth 100000
section
open Go.RowKit Go.Maps
theorem txt_beq (x y : Txt) : (x == y) = decide (x.toList = y.toList) := by
 rw [Bool.eq_iff_iff, beq_iff_eq, decide_eq_true_iff]
 exact ⟨fun h => by rw [h], fun h => bytes_eq.1 (by simp [h])⟩
theorem e_list : (⟨#[]⟩ : Txt).toList = [] := by decide +kernel
theorem minus_list : tMinus.toList = [45] := by decide +kernel
theorem not_list : tNot.toList = [33] := by decide +kernel
theorem form_1 (at_ n ty : Int) (name : Txt) (l : Lab) (pl : Option Addr) (cl : Nat) (p6 : Option Addr) (n6 c6 : Nat) (deep : Int) (w : World) (hl : Lbl w l (.slice pl l.length cl)) (ht : Tab w) :
 Calls Tryz.prog 61 #[.agg #[.int .i64 1, .int .i64 at_, .int .i64 n, .int .i64 ty, .string name, .slice pl l.length cl, .slice p6 n6 c6], .int .i64 deep] w fun e w' =>
  e = .returned (.bool (decide (deep ≤ 12) && ((n6 : Int) == 0) && (name == ⟨#[]⟩) && ((l.length : Int) == 0) && ((ty == 1 && decide (0 ≤ n) && decide (n ≤ 999999999)) || (ty == 2 && (n == 0 || n == 1))))) ∧ Below w.heap.size w w' := by
 obtain ⟨W1, eW⟩ : ∃ W1, w.alloc (.cells #[.int .i64 1, .int .i64 at_, .int .i64 n, .int .i64 ty, .string name, .slice pl l.length cl, .slice p6 n6 c6] 26) = W1 := ⟨_, rfl⟩
 have hb1 : Below w.heap.size w W1 := by rw [← eW]; exact (Below.refl _ _).alloc (Nat.le_refl _) _
 have hB : Blk W1 w.heap.size [.int .i64 1, .int .i64 at_, .int .i64 n, .int .i64 ty, .string name, .slice pl l.length cl, .slice p6 n6 c6] 26 := by rw [← eW]; exact Blk.new _ _ _
 have HQ : Hid (∀ W, Below W1.heap.size W1 W → W.cell? ⟨w.heap.size, 0, none⟩ = some (.int .i64 1) ∧ W.cell? ⟨w.heap.size, 1, none⟩ = some (.int .i64 at_) ∧ W.cell? ⟨w.heap.size, 2, none⟩ = some (.int .i64 n) ∧ W.cell? ⟨w.heap.size, 3, none⟩ = some (.int .i64 ty) ∧ W.cell? ⟨w.heap.size, 4, none⟩ = some (.string name) ∧ W.cell? ⟨w.heap.size, 5, none⟩ = some (.slice pl l.length cl) ∧ W.cell? ⟨w.heap.size, 6, none⟩ = some (.slice p6 n6 c6)) := fun W hb => (hB.below hb).cells7
 have HTB : Hid (∀ W, Below W1.heap.size W1 W → Tab W) := fun W hb => (ht.below hb1).below hb
 have HFI : Hid (∀ W, Below W1.heap.size W1 W → Calls Tryz.prog 114 #[.slice pl l.length cl] W fun e w' => e = .returned (.bool (fitsB l)) ∧ Below W.heap.size W w') := fun W hb => fits_calls l _ W (hl.stays (keeps_of_below (hb1.trans (hb.mono hb1.size))))
 have HRES : Hid (∀ b : Bool, b = (decide (deep ≤ 12) && ((n6 : Int) == 0) && (name == ⟨#[]⟩) && ((l.length : Int) == 0) && ((ty == 1 && decide (0 ≤ n) && decide (n ≤ 999999999)) || (ty == 2 && (n == 0 || n == 1)))) → b = (decide (deep ≤ 12) && ((n6 : Int) == 0) && (name == ⟨#[]⟩) && ((l.length : Int) == 0) && ((ty == 1 && decide (0 ≤ n) && decide (n ≤ 999999999)) || (ty == 2 && (n == 0 || n == 1))))) := fun _ h => h
 obtain ⟨q0, q1, q2, q3, q4, q5, q6⟩ := hB.cells7
 have HBW := Hd hb1
 have HBz : Hid (Below W1.heap.size W1 W1) := Below.refl _ _
 have HK : Hid True := trivial
 generalize hR : (decide (deep ≤ 12) && ((n6 : Int) == 0) && (name == ⟨#[]⟩) && ((l.length : Int) == 0) && ((ty == 1 && decide (0 ≤ n) && decide (n ≤ 999999999)) || (ty == 2 && (n == 0 || n == 1)))) = R at *
 have HR := Hd hR
 clear hB hb1 hl ht hR HRES
 generalize hfit : fitsB l = fl at *
 generalize hnam : isName name = nm at *
 generalize hlev : levelT name = lv at *
 have HL2 : Hid (levelT name = lv) := hlev
 have HN2 : Hid (isName name = nm) := hnam
 clear hfit hnam hlev
 all_goals (
  go_enter Tryz.func61, Tryz.ntmps61
  go_wp2_with (first
   | (go_at_call 143; refine (level_calls name _ (HTB.out _ HBz.out)).mono ?_; rintro e w2 ⟨rfl, hb2⟩; replace HBz := Hd (HBz.out.trans (hb2.mono HBz.out.size)); clear hb2; clear q0 q1 q2 q3 q4 q5 q6; obtain ⟨q0, q1, q2, q3, q4, q5, q6⟩ := HQ.out _ HBz.out; rw [HL2.out])
   | (go_at_call 115; refine (name_calls name _).mono ?_; rintro e w3 ⟨rfl, hb3⟩; replace HBz := Hd (HBz.out.trans (hb3.mono HBz.out.size)); clear hb3; clear q0 q1 q2 q3 q4 q5 q6; obtain ⟨q0, q1, q2, q3, q4, q5, q6⟩ := HQ.out _ HBz.out; rw [HN2.out])
   | (go_at_call 114; refine (HFI.out _ HBz.out).mono ?_; rintro e w4 ⟨rfl, hb4⟩; replace HBz := Hd (HBz.out.trans (hb4.mono HBz.out.size)); clear hb4; clear q0 q1 q2 q3 q4 q5 q6; obtain ⟨q0, q1, q2, q3, q4, q5, q6⟩ := HQ.out _ HBz.out)))
 all_goals (
  go_ret
  refine ⟨ret_bool ?_, HBW.out.trans (HBz.out.mono HBW.out.size)⟩
  first
   | (rw [← HR.out]; done)
   | (rw [← HR.out]; simp [txt_beq, e_list, minus_list, not_list, *]; done)
   | (rw [← HR.out]; simp [txt_beq, e_list, minus_list, not_list, *]; intros; (try constructor) <;> intros <;> omega))
theorem form_2 (at_ n ty : Int) (name : Txt) (l : Lab) (pl : Option Addr) (cl : Nat) (p6 : Option Addr) (n6 c6 : Nat) (deep : Int) (w : World) (hl : Lbl w l (.slice pl l.length cl)) (ht : Tab w) :
 Calls Tryz.prog 61 #[.agg #[.int .i64 2, .int .i64 at_, .int .i64 n, .int .i64 ty, .string name, .slice pl l.length cl, .slice p6 n6 c6], .int .i64 deep] w fun e w' =>
  e = .returned (.bool (decide (deep ≤ 12) && isName name && ((n6 : Int) == 0) && (n == 0) && (ty == 0) && ((l.length : Int) == 0))) ∧ Below w.heap.size w w' := by
 obtain ⟨W1, eW⟩ : ∃ W1, w.alloc (.cells #[.int .i64 2, .int .i64 at_, .int .i64 n, .int .i64 ty, .string name, .slice pl l.length cl, .slice p6 n6 c6] 26) = W1 := ⟨_, rfl⟩
 have hb1 : Below w.heap.size w W1 := by rw [← eW]; exact (Below.refl _ _).alloc (Nat.le_refl _) _
 have hB : Blk W1 w.heap.size [.int .i64 2, .int .i64 at_, .int .i64 n, .int .i64 ty, .string name, .slice pl l.length cl, .slice p6 n6 c6] 26 := by rw [← eW]; exact Blk.new _ _ _
 have HQ : Hid (∀ W, Below W1.heap.size W1 W → W.cell? ⟨w.heap.size, 0, none⟩ = some (.int .i64 2) ∧ W.cell? ⟨w.heap.size, 1, none⟩ = some (.int .i64 at_) ∧ W.cell? ⟨w.heap.size, 2, none⟩ = some (.int .i64 n) ∧ W.cell? ⟨w.heap.size, 3, none⟩ = some (.int .i64 ty) ∧ W.cell? ⟨w.heap.size, 4, none⟩ = some (.string name) ∧ W.cell? ⟨w.heap.size, 5, none⟩ = some (.slice pl l.length cl) ∧ W.cell? ⟨w.heap.size, 6, none⟩ = some (.slice p6 n6 c6)) := fun W hb => (hB.below hb).cells7
 have HTB : Hid (∀ W, Below W1.heap.size W1 W → Tab W) := fun W hb => (ht.below hb1).below hb
 have HFI : Hid (∀ W, Below W1.heap.size W1 W → Calls Tryz.prog 114 #[.slice pl l.length cl] W fun e w' => e = .returned (.bool (fitsB l)) ∧ Below W.heap.size W w') := fun W hb => fits_calls l _ W (hl.stays (keeps_of_below (hb1.trans (hb.mono hb1.size))))
 have HRES : Hid (∀ b : Bool, b = (decide (deep ≤ 12) && isName name && ((n6 : Int) == 0) && (n == 0) && (ty == 0) && ((l.length : Int) == 0)) → b = (decide (deep ≤ 12) && isName name && ((n6 : Int) == 0) && (n == 0) && (ty == 0) && ((l.length : Int) == 0))) := fun _ h => h
 obtain ⟨q0, q1, q2, q3, q4, q5, q6⟩ := hB.cells7
 have HBW := Hd hb1
 have HBz : Hid (Below W1.heap.size W1 W1) := Below.refl _ _
 have HK : Hid True := trivial
 generalize hR : (decide (deep ≤ 12) && isName name && ((n6 : Int) == 0) && (n == 0) && (ty == 0) && ((l.length : Int) == 0)) = R at *
 have HR := Hd hR
 clear hB hb1 hl ht hR HRES
 generalize hfit : fitsB l = fl at *
 generalize hnam : isName name = nm at *
 generalize hlev : levelT name = lv at *
 have HL2 : Hid (levelT name = lv) := hlev
 have HN2 : Hid (isName name = nm) := hnam
 clear hfit hnam hlev
 cases nm
 all_goals (
  go_enter Tryz.func61, Tryz.ntmps61
  go_wp2_with (first
   | (go_at_call 143; refine (level_calls name _ (HTB.out _ HBz.out)).mono ?_; rintro e w2 ⟨rfl, hb2⟩; replace HBz := Hd (HBz.out.trans (hb2.mono HBz.out.size)); clear hb2; clear q0 q1 q2 q3 q4 q5 q6; obtain ⟨q0, q1, q2, q3, q4, q5, q6⟩ := HQ.out _ HBz.out; rw [HL2.out])
   | (go_at_call 115; refine (name_calls name _).mono ?_; rintro e w3 ⟨rfl, hb3⟩; replace HBz := Hd (HBz.out.trans (hb3.mono HBz.out.size)); clear hb3; clear q0 q1 q2 q3 q4 q5 q6; obtain ⟨q0, q1, q2, q3, q4, q5, q6⟩ := HQ.out _ HBz.out; rw [HN2.out])
   | (go_at_call 114; refine (HFI.out _ HBz.out).mono ?_; rintro e w4 ⟨rfl, hb4⟩; replace HBz := Hd (HBz.out.trans (hb4.mono HBz.out.size)); clear hb4; clear q0 q1 q2 q3 q4 q5 q6; obtain ⟨q0, q1, q2, q3, q4, q5, q6⟩ := HQ.out _ HBz.out)))
 all_goals (
  go_ret
  refine ⟨ret_bool ?_, HBW.out.trans (HBz.out.mono HBW.out.size)⟩
  first
   | (rw [← HR.out]; done)
   | (rw [← HR.out]; simp [txt_beq, e_list, minus_list, not_list, *]; done)
   | (rw [← HR.out]; simp [txt_beq, e_list, minus_list, not_list, *]; intros; (try constructor) <;> intros <;> omega))
theorem form_3 (at_ n ty : Int) (name : Txt) (l : Lab) (pl : Option Addr) (cl : Nat) (p6 : Option Addr) (n6 c6 : Nat) (deep : Int) (w : World) (hl : Lbl w l (.slice pl l.length cl)) (ht : Tab w) :
 Calls Tryz.prog 61 #[.agg #[.int .i64 3, .int .i64 at_, .int .i64 n, .int .i64 ty, .string name, .slice pl l.length cl, .slice p6 n6 c6], .int .i64 deep] w fun e w' =>
  e = .returned (.bool (decide (deep ≤ 12) && ((((n6 : Int) == 1) && (name == tMinus || name == tNot)) || (((n6 : Int) == 2) && decide (0 < levelT name))) && (n == 0) && (ty == 0) && ((l.length : Int) == 0))) ∧ Below w.heap.size w w' := by
 obtain ⟨W1, eW⟩ : ∃ W1, w.alloc (.cells #[.int .i64 3, .int .i64 at_, .int .i64 n, .int .i64 ty, .string name, .slice pl l.length cl, .slice p6 n6 c6] 26) = W1 := ⟨_, rfl⟩
 have hb1 : Below w.heap.size w W1 := by rw [← eW]; exact (Below.refl _ _).alloc (Nat.le_refl _) _
 have hB : Blk W1 w.heap.size [.int .i64 3, .int .i64 at_, .int .i64 n, .int .i64 ty, .string name, .slice pl l.length cl, .slice p6 n6 c6] 26 := by rw [← eW]; exact Blk.new _ _ _
 have HQ : Hid (∀ W, Below W1.heap.size W1 W → W.cell? ⟨w.heap.size, 0, none⟩ = some (.int .i64 3) ∧ W.cell? ⟨w.heap.size, 1, none⟩ = some (.int .i64 at_) ∧ W.cell? ⟨w.heap.size, 2, none⟩ = some (.int .i64 n) ∧ W.cell? ⟨w.heap.size, 3, none⟩ = some (.int .i64 ty) ∧ W.cell? ⟨w.heap.size, 4, none⟩ = some (.string name) ∧ W.cell? ⟨w.heap.size, 5, none⟩ = some (.slice pl l.length cl) ∧ W.cell? ⟨w.heap.size, 6, none⟩ = some (.slice p6 n6 c6)) := fun W hb => (hB.below hb).cells7
 have HTB : Hid (∀ W, Below W1.heap.size W1 W → Tab W) := fun W hb => (ht.below hb1).below hb
 have HFI : Hid (∀ W, Below W1.heap.size W1 W → Calls Tryz.prog 114 #[.slice pl l.length cl] W fun e w' => e = .returned (.bool (fitsB l)) ∧ Below W.heap.size W w') := fun W hb => fits_calls l _ W (hl.stays (keeps_of_below (hb1.trans (hb.mono hb1.size))))
 have HRES : Hid (∀ b : Bool, b = (decide (deep ≤ 12) && ((((n6 : Int) == 1) && (name == tMinus || name == tNot)) || (((n6 : Int) == 2) && decide (0 < levelT name))) && (n == 0) && (ty == 0) && ((l.length : Int) == 0)) → b = (decide (deep ≤ 12) && ((((n6 : Int) == 1) && (name == tMinus || name == tNot)) || (((n6 : Int) == 2) && decide (0 < levelT name))) && (n == 0) && (ty == 0) && ((l.length : Int) == 0))) := fun _ h => h
 obtain ⟨q0, q1, q2, q3, q4, q5, q6⟩ := hB.cells7
 have HBW := Hd hb1
 have HBz : Hid (Below W1.heap.size W1 W1) := Below.refl _ _
 have HK : Hid True := trivial
 generalize hR : (decide (deep ≤ 12) && ((((n6 : Int) == 1) && (name == tMinus || name == tNot)) || (((n6 : Int) == 2) && decide (0 < levelT name))) && (n == 0) && (ty == 0) && ((l.length : Int) == 0)) = R at *
 have HR := Hd hR
 clear hB hb1 hl ht hR HRES
 generalize hfit : fitsB l = fl at *
 generalize hnam : isName name = nm at *
 generalize hlev : levelT name = lv at *
 have HL2 : Hid (levelT name = lv) := hlev
 have HN2 : Hid (isName name = nm) := hnam
 clear hfit hnam hlev
 all_goals (
  go_enter Tryz.func61, Tryz.ntmps61
  go_wp2_with (first
   | (go_at_call 143; refine (level_calls name _ (HTB.out _ HBz.out)).mono ?_; rintro e w2 ⟨rfl, hb2⟩; replace HBz := Hd (HBz.out.trans (hb2.mono HBz.out.size)); clear hb2; clear q0 q1 q2 q3 q4 q5 q6; obtain ⟨q0, q1, q2, q3, q4, q5, q6⟩ := HQ.out _ HBz.out; rw [HL2.out])
   | (go_at_call 115; refine (name_calls name _).mono ?_; rintro e w3 ⟨rfl, hb3⟩; replace HBz := Hd (HBz.out.trans (hb3.mono HBz.out.size)); clear hb3; clear q0 q1 q2 q3 q4 q5 q6; obtain ⟨q0, q1, q2, q3, q4, q5, q6⟩ := HQ.out _ HBz.out; rw [HN2.out])
   | (go_at_call 114; refine (HFI.out _ HBz.out).mono ?_; rintro e w4 ⟨rfl, hb4⟩; replace HBz := Hd (HBz.out.trans (hb4.mono HBz.out.size)); clear hb4; clear q0 q1 q2 q3 q4 q5 q6; obtain ⟨q0, q1, q2, q3, q4, q5, q6⟩ := HQ.out _ HBz.out)))
 all_goals (
  go_ret
  refine ⟨ret_bool ?_, HBW.out.trans (HBz.out.mono HBW.out.size)⟩
  first
   | (rw [← HR.out]; done)
   | (rw [← HR.out]; simp [txt_beq, e_list, minus_list, not_list, *]; done)
   | (rw [← HR.out]; simp [txt_beq, e_list, minus_list, not_list, *]; intros; (try constructor) <;> intros <;> omega))
theorem form_4 (at_ n ty : Int) (name : Txt) (l : Lab) (pl : Option Addr) (cl : Nat) (p6 : Option Addr) (n6 c6 : Nat) (deep : Int) (w : World) (hl : Lbl w l (.slice pl l.length cl)) (ht : Tab w) :
 Calls Tryz.prog 61 #[.agg #[.int .i64 4, .int .i64 at_, .int .i64 n, .int .i64 ty, .string name, .slice pl l.length cl, .slice p6 n6 c6], .int .i64 deep] w fun e w' =>
  e = .returned (.bool (decide (deep ≤ 12) && isName name && decide ((n6 : Int) ≤ 4) && (n == 0) && (ty == 0) && ((l.length : Int) == 0))) ∧ Below w.heap.size w w' := by
 obtain ⟨W1, eW⟩ : ∃ W1, w.alloc (.cells #[.int .i64 4, .int .i64 at_, .int .i64 n, .int .i64 ty, .string name, .slice pl l.length cl, .slice p6 n6 c6] 26) = W1 := ⟨_, rfl⟩
 have hb1 : Below w.heap.size w W1 := by rw [← eW]; exact (Below.refl _ _).alloc (Nat.le_refl _) _
 have hB : Blk W1 w.heap.size [.int .i64 4, .int .i64 at_, .int .i64 n, .int .i64 ty, .string name, .slice pl l.length cl, .slice p6 n6 c6] 26 := by rw [← eW]; exact Blk.new _ _ _
 have HQ : Hid (∀ W, Below W1.heap.size W1 W → W.cell? ⟨w.heap.size, 0, none⟩ = some (.int .i64 4) ∧ W.cell? ⟨w.heap.size, 1, none⟩ = some (.int .i64 at_) ∧ W.cell? ⟨w.heap.size, 2, none⟩ = some (.int .i64 n) ∧ W.cell? ⟨w.heap.size, 3, none⟩ = some (.int .i64 ty) ∧ W.cell? ⟨w.heap.size, 4, none⟩ = some (.string name) ∧ W.cell? ⟨w.heap.size, 5, none⟩ = some (.slice pl l.length cl) ∧ W.cell? ⟨w.heap.size, 6, none⟩ = some (.slice p6 n6 c6)) := fun W hb => (hB.below hb).cells7
 have HTB : Hid (∀ W, Below W1.heap.size W1 W → Tab W) := fun W hb => (ht.below hb1).below hb
 have HFI : Hid (∀ W, Below W1.heap.size W1 W → Calls Tryz.prog 114 #[.slice pl l.length cl] W fun e w' => e = .returned (.bool (fitsB l)) ∧ Below W.heap.size W w') := fun W hb => fits_calls l _ W (hl.stays (keeps_of_below (hb1.trans (hb.mono hb1.size))))
 have HRES : Hid (∀ b : Bool, b = (decide (deep ≤ 12) && isName name && decide ((n6 : Int) ≤ 4) && (n == 0) && (ty == 0) && ((l.length : Int) == 0)) → b = (decide (deep ≤ 12) && isName name && decide ((n6 : Int) ≤ 4) && (n == 0) && (ty == 0) && ((l.length : Int) == 0))) := fun _ h => h
 obtain ⟨q0, q1, q2, q3, q4, q5, q6⟩ := hB.cells7
 have HBW := Hd hb1
 have HBz : Hid (Below W1.heap.size W1 W1) := Below.refl _ _
 have HK : Hid True := trivial
 generalize hR : (decide (deep ≤ 12) && isName name && decide ((n6 : Int) ≤ 4) && (n == 0) && (ty == 0) && ((l.length : Int) == 0)) = R at *
 have HR := Hd hR
 clear hB hb1 hl ht hR HRES
 generalize hfit : fitsB l = fl at *
 generalize hnam : isName name = nm at *
 generalize hlev : levelT name = lv at *
 have HL2 : Hid (levelT name = lv) := hlev
 have HN2 : Hid (isName name = nm) := hnam
 clear hfit hnam hlev
 cases nm
 all_goals (
  go_enter Tryz.func61, Tryz.ntmps61
  go_wp2_with (first
   | (go_at_call 143; refine (level_calls name _ (HTB.out _ HBz.out)).mono ?_; rintro e w2 ⟨rfl, hb2⟩; replace HBz := Hd (HBz.out.trans (hb2.mono HBz.out.size)); clear hb2; clear q0 q1 q2 q3 q4 q5 q6; obtain ⟨q0, q1, q2, q3, q4, q5, q6⟩ := HQ.out _ HBz.out; rw [HL2.out])
   | (go_at_call 115; refine (name_calls name _).mono ?_; rintro e w3 ⟨rfl, hb3⟩; replace HBz := Hd (HBz.out.trans (hb3.mono HBz.out.size)); clear hb3; clear q0 q1 q2 q3 q4 q5 q6; obtain ⟨q0, q1, q2, q3, q4, q5, q6⟩ := HQ.out _ HBz.out; rw [HN2.out])
   | (go_at_call 114; refine (HFI.out _ HBz.out).mono ?_; rintro e w4 ⟨rfl, hb4⟩; replace HBz := Hd (HBz.out.trans (hb4.mono HBz.out.size)); clear hb4; clear q0 q1 q2 q3 q4 q5 q6; obtain ⟨q0, q1, q2, q3, q4, q5, q6⟩ := HQ.out _ HBz.out)))
 all_goals (
  go_ret
  refine ⟨ret_bool ?_, HBW.out.trans (HBz.out.mono HBW.out.size)⟩
  first
   | (rw [← HR.out]; done)
   | (rw [← HR.out]; simp [txt_beq, e_list, minus_list, not_list, *]; done)
   | (rw [← HR.out]; simp [txt_beq, e_list, minus_list, not_list, *]; intros; (try constructor) <;> intros <;> omega))
theorem form_5 (at_ n ty : Int) (name : Txt) (l : Lab) (pl : Option Addr) (cl : Nat) (p6 : Option Addr) (n6 c6 : Nat) (deep : Int) (w : World) (hl : Lbl w l (.slice pl l.length cl)) (ht : Tab w) :
 Calls Tryz.prog 61 #[.agg #[.int .i64 5, .int .i64 at_, .int .i64 n, .int .i64 ty, .string name, .slice pl l.length cl, .slice p6 n6 c6], .int .i64 deep] w fun e w' =>
  e = .returned (.bool (decide (deep ≤ 12) && ((n6 : Int) == 1) && (name == ⟨#[]⟩) && (n == 0) && (ty == 0) && fitsB l)) ∧ Below w.heap.size w w' := by
 obtain ⟨W1, eW⟩ : ∃ W1, w.alloc (.cells #[.int .i64 5, .int .i64 at_, .int .i64 n, .int .i64 ty, .string name, .slice pl l.length cl, .slice p6 n6 c6] 26) = W1 := ⟨_, rfl⟩
 have hb1 : Below w.heap.size w W1 := by rw [← eW]; exact (Below.refl _ _).alloc (Nat.le_refl _) _
 have hB : Blk W1 w.heap.size [.int .i64 5, .int .i64 at_, .int .i64 n, .int .i64 ty, .string name, .slice pl l.length cl, .slice p6 n6 c6] 26 := by rw [← eW]; exact Blk.new _ _ _
 have HQ : Hid (∀ W, Below W1.heap.size W1 W → W.cell? ⟨w.heap.size, 0, none⟩ = some (.int .i64 5) ∧ W.cell? ⟨w.heap.size, 1, none⟩ = some (.int .i64 at_) ∧ W.cell? ⟨w.heap.size, 2, none⟩ = some (.int .i64 n) ∧ W.cell? ⟨w.heap.size, 3, none⟩ = some (.int .i64 ty) ∧ W.cell? ⟨w.heap.size, 4, none⟩ = some (.string name) ∧ W.cell? ⟨w.heap.size, 5, none⟩ = some (.slice pl l.length cl) ∧ W.cell? ⟨w.heap.size, 6, none⟩ = some (.slice p6 n6 c6)) := fun W hb => (hB.below hb).cells7
 have HTB : Hid (∀ W, Below W1.heap.size W1 W → Tab W) := fun W hb => (ht.below hb1).below hb
 have HFI : Hid (∀ W, Below W1.heap.size W1 W → Calls Tryz.prog 114 #[.slice pl l.length cl] W fun e w' => e = .returned (.bool (fitsB l)) ∧ Below W.heap.size W w') := fun W hb => fits_calls l _ W (hl.stays (keeps_of_below (hb1.trans (hb.mono hb1.size))))
 have HRES : Hid (∀ b : Bool, b = (decide (deep ≤ 12) && ((n6 : Int) == 1) && (name == ⟨#[]⟩) && (n == 0) && (ty == 0) && fitsB l) → b = (decide (deep ≤ 12) && ((n6 : Int) == 1) && (name == ⟨#[]⟩) && (n == 0) && (ty == 0) && fitsB l)) := fun _ h => h
 obtain ⟨q0, q1, q2, q3, q4, q5, q6⟩ := hB.cells7
 have HBW := Hd hb1
 have HBz : Hid (Below W1.heap.size W1 W1) := Below.refl _ _
 have HK : Hid True := trivial
 generalize hR : (decide (deep ≤ 12) && ((n6 : Int) == 1) && (name == ⟨#[]⟩) && (n == 0) && (ty == 0) && fitsB l) = R at *
 have HR := Hd hR
 clear hB hb1 hl ht hR HRES
 generalize hfit : fitsB l = fl at *
 generalize hnam : isName name = nm at *
 generalize hlev : levelT name = lv at *
 have HL2 : Hid (levelT name = lv) := hlev
 have HN2 : Hid (isName name = nm) := hnam
 clear hfit hnam hlev
 cases fl
 all_goals (
  go_enter Tryz.func61, Tryz.ntmps61
  go_wp2_with (first
   | (go_at_call 143; refine (level_calls name _ (HTB.out _ HBz.out)).mono ?_; rintro e w2 ⟨rfl, hb2⟩; replace HBz := Hd (HBz.out.trans (hb2.mono HBz.out.size)); clear hb2; clear q0 q1 q2 q3 q4 q5 q6; obtain ⟨q0, q1, q2, q3, q4, q5, q6⟩ := HQ.out _ HBz.out; rw [HL2.out])
   | (go_at_call 115; refine (name_calls name _).mono ?_; rintro e w3 ⟨rfl, hb3⟩; replace HBz := Hd (HBz.out.trans (hb3.mono HBz.out.size)); clear hb3; clear q0 q1 q2 q3 q4 q5 q6; obtain ⟨q0, q1, q2, q3, q4, q5, q6⟩ := HQ.out _ HBz.out; rw [HN2.out])
   | (go_at_call 114; refine (HFI.out _ HBz.out).mono ?_; rintro e w4 ⟨rfl, hb4⟩; replace HBz := Hd (HBz.out.trans (hb4.mono HBz.out.size)); clear hb4; clear q0 q1 q2 q3 q4 q5 q6; obtain ⟨q0, q1, q2, q3, q4, q5, q6⟩ := HQ.out _ HBz.out)))
 all_goals (
  go_ret
  refine ⟨ret_bool ?_, HBW.out.trans (HBz.out.mono HBW.out.size)⟩
  first
   | (rw [← HR.out]; done)
   | (rw [← HR.out]; simp [txt_beq, e_list, minus_list, not_list, *]; done)
   | (rw [← HR.out]; simp [txt_beq, e_list, minus_list, not_list, *]; intros; (try constructor) <;> intros <;> omega))
theorem form_0 (at_ n ty : Int) (name : Txt) (l : Lab) (pl : Option Addr) (cl : Nat) (p6 : Option Addr) (n6 c6 : Nat) (deep : Int) (w : World) (kd : Int) (hk : ¬ kd = 1 ∧ ¬ kd = 2 ∧ ¬ kd = 3 ∧ ¬ kd = 4 ∧ ¬ kd = 5) (hl : Lbl w l (.slice pl l.length cl)) (ht : Tab w) :
 Calls Tryz.prog 61 #[.agg #[.int .i64 kd, .int .i64 at_, .int .i64 n, .int .i64 ty, .string name, .slice pl l.length cl, .slice p6 n6 c6], .int .i64 deep] w fun e w' =>
  e = .returned (.bool (false)) ∧ Below w.heap.size w w' := by
 obtain ⟨W1, eW⟩ : ∃ W1, w.alloc (.cells #[.int .i64 kd, .int .i64 at_, .int .i64 n, .int .i64 ty, .string name, .slice pl l.length cl, .slice p6 n6 c6] 26) = W1 := ⟨_, rfl⟩
 have hb1 : Below w.heap.size w W1 := by rw [← eW]; exact (Below.refl _ _).alloc (Nat.le_refl _) _
 have hB : Blk W1 w.heap.size [.int .i64 kd, .int .i64 at_, .int .i64 n, .int .i64 ty, .string name, .slice pl l.length cl, .slice p6 n6 c6] 26 := by rw [← eW]; exact Blk.new _ _ _
 have HQ : Hid (∀ W, Below W1.heap.size W1 W → W.cell? ⟨w.heap.size, 0, none⟩ = some (.int .i64 kd) ∧ W.cell? ⟨w.heap.size, 1, none⟩ = some (.int .i64 at_) ∧ W.cell? ⟨w.heap.size, 2, none⟩ = some (.int .i64 n) ∧ W.cell? ⟨w.heap.size, 3, none⟩ = some (.int .i64 ty) ∧ W.cell? ⟨w.heap.size, 4, none⟩ = some (.string name) ∧ W.cell? ⟨w.heap.size, 5, none⟩ = some (.slice pl l.length cl) ∧ W.cell? ⟨w.heap.size, 6, none⟩ = some (.slice p6 n6 c6)) := fun W hb => (hB.below hb).cells7
 have HTB : Hid (∀ W, Below W1.heap.size W1 W → Tab W) := fun W hb => (ht.below hb1).below hb
 have HFI : Hid (∀ W, Below W1.heap.size W1 W → Calls Tryz.prog 114 #[.slice pl l.length cl] W fun e w' => e = .returned (.bool (fitsB l)) ∧ Below W.heap.size W w') := fun W hb => fits_calls l _ W (hl.stays (keeps_of_below (hb1.trans (hb.mono hb1.size))))
 have HRES : Hid (∀ b : Bool, b = (false) → b = (false)) := fun _ h => h
 obtain ⟨q0, q1, q2, q3, q4, q5, q6⟩ := hB.cells7
 have HBW := Hd hb1
 have HBz : Hid (Below W1.heap.size W1 W1) := Below.refl _ _
 obtain ⟨k1, k2, k3, k4, k5⟩ := hk
 generalize hR : (false) = R at *
 have HR := Hd hR
 clear hB hb1 hl ht hR HRES
 generalize hfit : fitsB l = fl at *
 generalize hnam : isName name = nm at *
 generalize hlev : levelT name = lv at *
 have HL2 : Hid (levelT name = lv) := hlev
 have HN2 : Hid (isName name = nm) := hnam
 clear hfit hnam hlev
 all_goals (
  go_enter Tryz.func61, Tryz.ntmps61
  go_wp2_with (first
   | (go_at_call 143; refine (level_calls name _ (HTB.out _ HBz.out)).mono ?_; rintro e w2 ⟨rfl, hb2⟩; replace HBz := Hd (HBz.out.trans (hb2.mono HBz.out.size)); clear hb2; clear q0 q1 q2 q3 q4 q5 q6; obtain ⟨q0, q1, q2, q3, q4, q5, q6⟩ := HQ.out _ HBz.out; rw [HL2.out])
   | (go_at_call 115; refine (name_calls name _).mono ?_; rintro e w3 ⟨rfl, hb3⟩; replace HBz := Hd (HBz.out.trans (hb3.mono HBz.out.size)); clear hb3; clear q0 q1 q2 q3 q4 q5 q6; obtain ⟨q0, q1, q2, q3, q4, q5, q6⟩ := HQ.out _ HBz.out; rw [HN2.out])
   | (go_at_call 114; refine (HFI.out _ HBz.out).mono ?_; rintro e w4 ⟨rfl, hb4⟩; replace HBz := Hd (HBz.out.trans (hb4.mono HBz.out.size)); clear hb4; clear q0 q1 q2 q3 q4 q5 q6; obtain ⟨q0, q1, q2, q3, q4, q5, q6⟩ := HQ.out _ HBz.out)))
 all_goals (
  go_ret
  refine ⟨ret_bool ?_, HBW.out.trans (HBz.out.mono HBW.out.size)⟩
  first
   | (rw [← HR.out]; done)
   | (rw [← HR.out]; simp [txt_beq, e_list, minus_list, not_list, *]; done)
   | (rw [← HR.out]; simp [txt_beq, e_list, minus_list, not_list, *]; intros; (try constructor) <;> intros <;> omega))
end
end Go.Proofs.YtminbehofnnhmaaGreatDoor
