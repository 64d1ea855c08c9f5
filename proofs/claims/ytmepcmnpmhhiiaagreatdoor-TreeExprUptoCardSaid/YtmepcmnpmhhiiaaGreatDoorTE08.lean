/-
  The document's ExprText, one theorem for each kind of expression; printed by exptextgen.py. An expression among the arguments: whatever reads as data of its type lies as an expression. The document's FormExpr and IsFormed, whole. The document's SameLabel and SameExpr.
-/
import Derived.Test.YtmepcmnpmhhiiaaGreatDoorTE07
import Derived.Test.YtmepcmnpmhhiiaaGreatDoorTE05
import Derived.Test.YtmepcmnpmhhiiaaGreatDoorTE00
namespace Go.Proofs.YtmepcmnpmhhiiaaGreatDoor
open Go.RowKit Go.Maps
set_option linter.unusedVariables false
set_option linter.unusedSimpArgs false

/-- What is asked of ExprText at a kid. -/
def RTextC (w : World) (y : Ex) : Prop := ∀ (W : World) (v : Value), Below w.heap.size w W → ExIs W y v → Calls Tryz.prog 28 #[v] W fun e w' => e = .returned (.string (textP y 0)) ∧ Below W.heap.size W w'
theorem RTextC.later {w w' : World} {y : Ex} (h : RTextC w y) (hb : Below w.heap.size w w') : RTextC w' y := fun W v h1 h2 => h W v (hb.trans (h1.mono hb.size)) h2
/-- Is it an Op of two? -/
def twoB (y : Ex) : Bool := (y.kind == 3) && ((y.kids.length : Int) == 2)
set_option maxRecDepth 100000 in
theorem refTwo_calls (y : Ex) (v : Value) (w : World) (hy : ExIs w y v) : Calls Tryz.prog 69 #[v] w fun e w' => e = .returned (.bool (twoB y)) ∧ Below w.heap.size w w' := by
  obtain ⟨vl, va, rfl, hl, ha⟩ := hy
  obtain ⟨pl, cl, rfl, _⟩ := hl
  obtain ⟨pa, ca, rfl, _⟩ := ha
  obtain ⟨W1, eW⟩ : ∃ W1, w.alloc (.cells #[.int .i64 y.kind, .int .i64 y.at_, .int .i64 y.num, .int .i64 y.ty, .string y.name, .slice pl y.lab.length cl, .slice pa y.kids.length ca] 26) = W1 := ⟨_, rfl⟩
  have hb1 : Below w.heap.size w W1 := by rw [← eW]; exact (Below.refl _ _).alloc (Nat.le_refl _) _
  have hB : Blk W1 w.heap.size (exC y (.slice pl y.lab.length cl) (.slice pa y.kids.length ca)) 26 := by rw [← eW]; exact Blk.new _ _ _
  obtain ⟨q0, q1, q2, q3, q4, q5, q6⟩ := hB.cells7
  have HB := Lib.hid hb1
  have HR : Hid (twoB y = ((y.kind == 3) && ((y.kids.length : Int) == 2))) := rfl
  clear hb1 hB
  cases h0 : (y.kind == 3) with
  | true =>
    rw [h0] at HR
    go_enter Tryz.func69, Tryz.ntmps69
    go_wp2_with (fail)
    go_ret
    exact ⟨by rw [HR.out]; rfl, HB.out⟩
  | false =>
    rw [h0] at HR
    go_enter Tryz.func69, Tryz.ntmps69
    go_wp2_with (fail)
    go_ret
    exact ⟨by rw [HR.out]; rfl, HB.out⟩
theorem wp_region_cls {P : Program} {id : Nat} {Q : Exit → Act → World → Prop} {a : Act} {w : World} {l : List Oper} (C : World → Prop) (hm : P.follows .mixedOrders = true) (hB : Region.lexB .any l.toArray = true) (hC : C w.drew)
    (h : wpQuiet P l.toArray C (fun a' => ∀ w', C w' → Q .normal a' w') l a) : (Code.region id l.toArray true).wp P Q a w :=
  wp_region_quiet (C := C) hm hB hC (by simpa using h)
theorem below_on {W1 p v : World} (h : Hid (Below W1.heap.size W1 p)) (hv : Below p.heap.size p v) : Hid (Below W1.heap.size W1 v) := h.out.trans (hv.mono h.out.size)
theorem two_size {y : Ex} : (tLeft ++ textP y 0 ++ tRight).size = (textP y 0).size + 2 := by
  rw [ByteArray.size_append, ByteArray.size_append]
  have e1 : tLeft.size = 1 := rfl
  have e2 : tRight.size = 1 := rfl
  omega
set_option maxRecDepth 100000 in
theorem refIn_calls (y : Ex) (v : Value) (w : World) (hy : ExIs w y v) (hsz : (textP y 0).size ≤ 413867158356) (hk : RTextC w y) : Calls Tryz.prog 66 #[v] w fun e w' => e = .returned (.string (tLeft ++ textP y 0 ++ tRight)) ∧ Below w.heap.size w w' := by
  have hy0 := hy
  obtain ⟨vl, va, rfl, hl, ha⟩ := hy
  obtain ⟨pl, cl, rfl, _⟩ := hl
  obtain ⟨pa, ca, rfl, _⟩ := ha
  obtain ⟨W1, eW⟩ : ∃ W1, w.alloc (.cells #[.int .i64 y.kind, .int .i64 y.at_, .int .i64 y.num, .int .i64 y.ty, .string y.name, .slice pl y.lab.length cl, .slice pa y.kids.length ca] 26) = W1 := ⟨_, rfl⟩
  have hb1 : Below w.heap.size w W1 := by rw [← eW]; exact (Below.refl _ _).alloc (Nat.le_refl _) _
  have hB : Blk W1 w.heap.size (exC y (.slice pl y.lab.length cl) (.slice pa y.kids.length ca)) 26 := by rw [← eW]; exact Blk.new _ _ _
  obtain ⟨q0, q1, q2, q3, q4, q5, q6⟩ := hB.cells7
  have HB := Lib.hid hb1
  have HC := Lib.hid (hk W1 _ hb1 (hy0.stays (keeps_of_below hb1)))
  have e1 : tLeft.size = 1 := rfl
  have e2 : tRight.size = 1 := rfl
  generalize textP y 0 = J at *
  clear hb1 hB hy0 hk
  go_enter Tryz.func66, Tryz.ntmps66
  go_wp2_with (fail)
  refine HC.out.mono ?_
  rintro e w2 ⟨rfl, hb2⟩
  have hs1 : ¬ 9223372036854775807 < (⟨#[40]⟩ : Txt).size + J.size := by show ¬ 9223372036854775807 < 1 + J.size; omega
  have hs2 : ¬ 9223372036854775807 < 1 + J.size := by omega
  have hs3 : ¬ 9223372036854775807 < 1 + J.size + 1 := by omega
  go_wp2_with (fail)
  go_ret
  exact ⟨rfl, HB.out.trans (hb2.mono HB.out.size)⟩
set_option maxHeartbeats 4000000 in
set_option maxRecDepth 100000 in
theorem rtext_num (at_ num : Int) (name : Txt) (l : Lab) (a : List Ex) (pl : Option Addr) (cl : Nat) (pa : Option Addr) (ca : Nat) (w : World) (h0 : 0 ≤ num) (h1 : num ≤ 999999999) (hpow : Pow w) :
    Calls Tryz.prog 28 #[.agg #[.int .i64 1, .int .i64 at_, .int .i64 num, .int .i64 1, .string name, .slice pl l.length cl, .slice pa a.length ca]] w fun e w' => e = .returned (.string (textP (.mk 1 at_ num 1 name l a) 0)) ∧ Below w.heap.size w w' := by
  obtain ⟨W1, eW⟩ : ∃ W1, w.alloc (.cells #[.int .i64 1, .int .i64 at_, .int .i64 num, .int .i64 1, .string name, .slice pl l.length cl, .slice pa a.length ca] 26) = W1 := ⟨_, rfl⟩
  have hb1 : Below w.heap.size w W1 := by rw [← eW]; exact (Below.refl _ _).alloc (Nat.le_refl _) _
  have hB : Blk W1 w.heap.size [.int .i64 1, .int .i64 at_, .int .i64 num, .int .i64 1, .string name, .slice pl l.length cl, .slice pa a.length ca] 26 := by rw [← eW]; exact Blk.new _ _ _
  have HQ : Hid (∀ W, Below W1.heap.size W1 W → Blk W w.heap.size [.int .i64 1, .int .i64 at_, .int .i64 num, .int .i64 1, .string name, .slice pl l.length cl, .slice pa a.length ca] 26) := fun W hb => hB.below hb
  obtain ⟨q0, q1, q2, q3, q4, q5, q6⟩ := hB.cells7
  have HBW := Lib.hid hb1
  have HI := Lib.hid (itoa_calls num h0 h1 W1 (hpow.below hb1))
  have HR : Hid (textP (.mk 1 at_ num 1 name l a) 0 = ⟨(Lib.itoa num).toArray⟩) := by unfold Hid; rw [textP, if_pos rfl, if_neg (by decide)]
  generalize (⟨(Lib.itoa num).toArray⟩ : Txt) = R at *
  clear hB hb1 h0 h1 hpow
  go_enter Tryz.func28, Tryz.ntmps28
  go_wp2_with (fail)
  refine HI.out.mono ?_
  rintro e w2 ⟨rfl, hb2⟩
  go_wp2_with (fail)
  go_ret
  exact ⟨by rw [HR.out]; rfl, HBW.out.trans (hb2.mono HBW.out.size)⟩
set_option maxHeartbeats 4000000 in
set_option maxRecDepth 100000 in
theorem rtext_true (at_ : Int) (name : Txt) (l : Lab) (a : List Ex) (pl : Option Addr) (cl : Nat) (pa : Option Addr) (ca : Nat) (w : World) :
    Calls Tryz.prog 28 #[.agg #[.int .i64 1, .int .i64 at_, .int .i64 1, .int .i64 2, .string name, .slice pl l.length cl, .slice pa a.length ca]] w fun e w' => e = .returned (.string (textP (.mk 1 at_ 1 2 name l a) 0)) ∧ Below w.heap.size w w' := by
  obtain ⟨W1, eW⟩ : ∃ W1, w.alloc (.cells #[.int .i64 1, .int .i64 at_, .int .i64 1, .int .i64 2, .string name, .slice pl l.length cl, .slice pa a.length ca] 26) = W1 := ⟨_, rfl⟩
  have hb1 : Below w.heap.size w W1 := by rw [← eW]; exact (Below.refl _ _).alloc (Nat.le_refl _) _
  have hB : Blk W1 w.heap.size [.int .i64 1, .int .i64 at_, .int .i64 1, .int .i64 2, .string name, .slice pl l.length cl, .slice pa a.length ca] 26 := by rw [← eW]; exact Blk.new _ _ _
  have HQ : Hid (∀ W, Below W1.heap.size W1 W → Blk W w.heap.size [.int .i64 1, .int .i64 at_, .int .i64 1, .int .i64 2, .string name, .slice pl l.length cl, .slice pa a.length ca] 26) := fun W hb => hB.below hb
  obtain ⟨q0, q1, q2, q3, q4, q5, q6⟩ := hB.cells7
  have HBW := Lib.hid hb1
  obtain ⟨W2, eW2⟩ : ∃ W2, W1.alloc (.cells #[.string ⟨#[102, 97, 108, 115, 101]⟩, .string ⟨#[116, 114, 117, 101]⟩] 9) = W2 := ⟨_, rfl⟩
  have hb2 : Below W1.heap.size W1 W2 := by rw [← eW2]; exact (Below.refl _ _).alloc (Nat.le_refl _) _
  have hB2 : Blk W2 W1.heap.size [.string ⟨#[102, 97, 108, 115, 101]⟩, .string ⟨#[116, 114, 117, 101]⟩] 9 := by rw [← eW2]; exact Blk.new _ _ _
  have d0 := hB2.cell 0
  have d1 := hB2.cell 1
  simp only [List.getElem?_cons_zero, List.getElem?_cons_succ] at d0 d1
  have r2 : W2.cell? ⟨w.heap.size, 2, none⟩ = some (.int .i64 1) := below_cell hb2 q2
  have HB2 := Lib.hid (HBW.out.trans (hb2.mono HBW.out.size))
  have HR : Hid (textP (.mk 1 at_ 1 2 name l a) 0 = tTrue) := by unfold Hid; rw [textP, if_pos rfl, if_pos rfl, if_pos rfl]
  clear hB hb1 hb2 hB2
  go_enter Tryz.func28, Tryz.ntmps28
  go_wp2_with (fail)
  go_ret
  exact ⟨by rw [HR.out]; rfl, HB2.out⟩
set_option maxHeartbeats 4000000 in
set_option maxRecDepth 100000 in
theorem rtext_false (at_ : Int) (name : Txt) (l : Lab) (a : List Ex) (pl : Option Addr) (cl : Nat) (pa : Option Addr) (ca : Nat) (w : World) :
    Calls Tryz.prog 28 #[.agg #[.int .i64 1, .int .i64 at_, .int .i64 0, .int .i64 2, .string name, .slice pl l.length cl, .slice pa a.length ca]] w fun e w' => e = .returned (.string (textP (.mk 1 at_ 0 2 name l a) 0)) ∧ Below w.heap.size w w' := by
  obtain ⟨W1, eW⟩ : ∃ W1, w.alloc (.cells #[.int .i64 1, .int .i64 at_, .int .i64 0, .int .i64 2, .string name, .slice pl l.length cl, .slice pa a.length ca] 26) = W1 := ⟨_, rfl⟩
  have hb1 : Below w.heap.size w W1 := by rw [← eW]; exact (Below.refl _ _).alloc (Nat.le_refl _) _
  have hB : Blk W1 w.heap.size [.int .i64 1, .int .i64 at_, .int .i64 0, .int .i64 2, .string name, .slice pl l.length cl, .slice pa a.length ca] 26 := by rw [← eW]; exact Blk.new _ _ _
  have HQ : Hid (∀ W, Below W1.heap.size W1 W → Blk W w.heap.size [.int .i64 1, .int .i64 at_, .int .i64 0, .int .i64 2, .string name, .slice pl l.length cl, .slice pa a.length ca] 26) := fun W hb => hB.below hb
  obtain ⟨q0, q1, q2, q3, q4, q5, q6⟩ := hB.cells7
  have HBW := Lib.hid hb1
  obtain ⟨W2, eW2⟩ : ∃ W2, W1.alloc (.cells #[.string ⟨#[102, 97, 108, 115, 101]⟩, .string ⟨#[116, 114, 117, 101]⟩] 9) = W2 := ⟨_, rfl⟩
  have hb2 : Below W1.heap.size W1 W2 := by rw [← eW2]; exact (Below.refl _ _).alloc (Nat.le_refl _) _
  have hB2 : Blk W2 W1.heap.size [.string ⟨#[102, 97, 108, 115, 101]⟩, .string ⟨#[116, 114, 117, 101]⟩] 9 := by rw [← eW2]; exact Blk.new _ _ _
  have d0 := hB2.cell 0
  have d1 := hB2.cell 1
  simp only [List.getElem?_cons_zero, List.getElem?_cons_succ] at d0 d1
  have r2 : W2.cell? ⟨w.heap.size, 2, none⟩ = some (.int .i64 0) := below_cell hb2 q2
  have HB2 := Lib.hid (HBW.out.trans (hb2.mono HBW.out.size))
  have HR : Hid (textP (.mk 1 at_ 0 2 name l a) 0 = tFalse) := by unfold Hid; rw [textP, if_pos rfl, if_pos rfl, if_neg (by decide)]
  clear hB hb1 hb2 hB2
  go_enter Tryz.func28, Tryz.ntmps28
  go_wp2_with (fail)
  go_ret
  exact ⟨by rw [HR.out]; rfl, HB2.out⟩
set_option maxHeartbeats 4000000 in
set_option maxRecDepth 100000 in
theorem rtext_var (at_ num ty : Int) (name : Txt) (l : Lab) (a : List Ex) (pl : Option Addr) (cl : Nat) (pa : Option Addr) (ca : Nat) (w : World) :
    Calls Tryz.prog 28 #[.agg #[.int .i64 2, .int .i64 at_, .int .i64 num, .int .i64 ty, .string name, .slice pl l.length cl, .slice pa a.length ca]] w fun e w' => e = .returned (.string (textP (.mk 2 at_ num ty name l a) 0)) ∧ Below w.heap.size w w' := by
  obtain ⟨W1, eW⟩ : ∃ W1, w.alloc (.cells #[.int .i64 2, .int .i64 at_, .int .i64 num, .int .i64 ty, .string name, .slice pl l.length cl, .slice pa a.length ca] 26) = W1 := ⟨_, rfl⟩
  have hb1 : Below w.heap.size w W1 := by rw [← eW]; exact (Below.refl _ _).alloc (Nat.le_refl _) _
  have hB : Blk W1 w.heap.size [.int .i64 2, .int .i64 at_, .int .i64 num, .int .i64 ty, .string name, .slice pl l.length cl, .slice pa a.length ca] 26 := by rw [← eW]; exact Blk.new _ _ _
  have HQ : Hid (∀ W, Below W1.heap.size W1 W → Blk W w.heap.size [.int .i64 2, .int .i64 at_, .int .i64 num, .int .i64 ty, .string name, .slice pl l.length cl, .slice pa a.length ca] 26) := fun W hb => hB.below hb
  obtain ⟨q0, q1, q2, q3, q4, q5, q6⟩ := hB.cells7
  have HBW := Lib.hid hb1
  have HR : Hid (textP (.mk 2 at_ num ty name l a) 0 = name) := by unfold Hid; rw [textP, if_neg (by decide), if_pos rfl]
  clear hB hb1
  go_enter Tryz.func28, Tryz.ntmps28
  go_wp2_with (fail)
  go_ret
  exact ⟨by rw [HR.out]; rfl, HBW.out⟩
set_option maxHeartbeats 4000000 in
set_option maxRecDepth 100000 in
theorem rtext_call (at_ num ty : Int) (name : Txt) (l : Lab) (a : List Ex) (pl : Option Addr) (cl : Nat) (pa : Option Addr) (ca : Nat) (w : World) (ha : Exs w a (.slice pa a.length ca)) (hl4 : a.length ≤ 4) (hn12 : name.size ≤ 12) (hsz : ∀ y ∈ a, (textP y 0).size ≤ 413867158356) (hk : ∀ y ∈ a, RTextC w y) :
    Calls Tryz.prog 28 #[.agg #[.int .i64 4, .int .i64 at_, .int .i64 num, .int .i64 ty, .string name, .slice pl l.length cl, .slice pa a.length ca]] w fun e w' => e = .returned (.string (textP (.mk 4 at_ num ty name l a) 0)) ∧ Below w.heap.size w w' := by
  obtain ⟨W1, eW⟩ : ∃ W1, w.alloc (.cells #[.int .i64 4, .int .i64 at_, .int .i64 num, .int .i64 ty, .string name, .slice pl l.length cl, .slice pa a.length ca] 26) = W1 := ⟨_, rfl⟩
  have hb1 : Below w.heap.size w W1 := by rw [← eW]; exact (Below.refl _ _).alloc (Nat.le_refl _) _
  have hB : Blk W1 w.heap.size [.int .i64 4, .int .i64 at_, .int .i64 num, .int .i64 ty, .string name, .slice pl l.length cl, .slice pa a.length ca] 26 := by rw [← eW]; exact Blk.new _ _ _
  have HQ : Hid (∀ W, Below W1.heap.size W1 W → Blk W w.heap.size [.int .i64 4, .int .i64 at_, .int .i64 num, .int .i64 ty, .string name, .slice pl l.length cl, .slice pa a.length ca] 26) := fun W hb => hB.below hb
  obtain ⟨q0, q1, q2, q3, q4, q5, q6⟩ := hB.cells7
  have HBW := Lib.hid hb1
  have HR : Hid (textP (.mk 4 at_ num ty name l a) 0 = name ++ tLeft ++ joinT (textsP a 0 0) commaSp ++ tRight) := by unfold Hid; rw [textP, if_neg (by decide), if_neg (by decide), if_pos rfl]; simp only [ByteArray.append_assoc]
  obtain ⟨b, o, c, p, e, hmax, hp, hkids⟩ := ha.at
  obtain ⟨rfl, rfl⟩ : pa = p ∧ ca = c := by simpa using e
  have HKD : Hid (∀ W, Below W1.heap.size W1 W → ∀ (i : Nat) (hi : i < a.length), ∃ pl cl pa ca, ExIs W a[i] (.agg #[.int .i64 a[i].kind, .int .i64 a[i].at_, .int .i64 a[i].num, .int .i64 a[i].ty, .string a[i].name, .slice pl a[i].lab.length cl, .slice pa a[i].kids.length ca]) ∧
      W.cell? ⟨b, o + i * 7, none⟩ = some (.int .i64 a[i].kind) ∧ W.cell? ⟨b, o + i * 7 + 1, none⟩ = some (.int .i64 a[i].at_) ∧ W.cell? ⟨b, o + i * 7 + 2, none⟩ = some (.int .i64 a[i].num) ∧ W.cell? ⟨b, o + i * 7 + 3, none⟩ = some (.int .i64 a[i].ty) ∧
      W.cell? ⟨b, o + i * 7 + 4, none⟩ = some (.string a[i].name) ∧ W.cell? ⟨b, o + i * 7 + 5, none⟩ = some (.slice pl a[i].lab.length cl) ∧ W.cell? ⟨b, o + i * 7 + 6, none⟩ = some (.slice pa a[i].kids.length ca)) := fun W h i hi => by
    have hk := (keeps_of_below hb1).trans (keeps_of_below h)
    obtain ⟨pl, cl, pa, ca, g1, g2, g3, g4, g5, g6, g7, g8, g9⟩ := hkids i hi
    exact ⟨pl, cl, pa, ca, ⟨_, _, rfl, g1.stays hk, g2.stays hk⟩, hk.2 _ _ _ g3, hk.2 _ _ _ g4, hk.2 _ _ _ g5, hk.2 _ _ _ g6, hk.2 _ _ _ g7, hk.2 _ _ _ g8, hk.2 _ _ _ g9⟩
  have HSZ : Hid (∀ k, k ≤ a.length → (joinT ((textsP a 0 0).take k) commaSp).size ≤ 2000000000000) := fun k hk => by
    have hn : ∀ s ∈ (textsP a 0 0).take k, s.size ≤ 413867158356 := fun s hs => by
      have hs := List.mem_of_mem_take hs
      rw [textsP_map] at hs
      obtain ⟨y, hy, rfl⟩ := List.mem_map.1 hs
      exact hsz y hy
    have hlen := join_len ((textsP a 0 0).take k) commaSp 413867158356 hn
    have e1 : commaSp.size = 2 := rfl
    have hl : ((textsP a 0 0).take k).length ≤ 4 := by rw [List.length_take, textsP_len]; omega
    have hm4 : ((textsP a 0 0).take k).length * (413867158356 + commaSp.size) ≤ 4 * 413867158358 := Nat.mul_le_mul hl (by rw [e1]; decide)
    rw [joinT_size]
    omega
  have HST : Hid (∀ k (h : k < a.length), joinT ((textsP a 0 0).take (k + 1)) commaSp = if k = 0 then textP a[k] 0 else joinT ((textsP a 0 0).take k) commaSp ++ commaSp ++ textP a[k] 0) := fun k h => by
    have hg := textsP_get 0 0 h
    have hl : k < (textsP a 0 0).length := by rw [textsP_len]; exact h
    rw [List.getElem?_eq_getElem hl] at hg
    simp only [Int.mul_zero, Int.add_zero, Option.some.injEq] at hg
    rw [List.take_succ_eq_append_getElem hl, hg]
    split
    · rename_i h0
      subst h0
      rw [List.take_zero, List.nil_append, joinT_one]
    · rename_i h0
      rw [joinT_snoc]
      intro e
      have h3 := congrArg List.length e
      have h4 := textsP_len a 0 0
      rw [List.length_take, List.length_nil] at h3
      omega
  have HTK : Hid ((textsP a 0 0).take a.length = textsP a 0 0) := by unfold Hid; rw [← textsP_len a 0 0, List.take_length]
  have HSY : Hid (∀ k (h : k < a.length), (textP a[k] 0).size ≤ 413867158356) := fun k h => hsz _ (List.getElem_mem h)
  have HK : Hid (∀ k (h : k < a.length), RTextC w a[k]) := fun k h => hk _ (List.getElem_mem h)
  have HP := Lib.hid hp
  have HL4 := Lib.hid hl4
  clear hB hb1 ha hsz hk hkids hp hl4 e hmax
  go_enter Tryz.func28, Tryz.ntmps28
  go_wp2_with (fail)
  clear q0 q1 q2 q3 q4 q5 q6 eW
  go_loopw [4, 34] (fun s i ws => ∃ (k : Nat) (wo : World), k ≤ a.length ∧ i = .int .i64 k ∧ s = .string (joinT ((textsP a 0 0).take k) commaSp) ∧ wo = ws ∧ Hid (Below W1.heap.size W1 wo)) (fun _ i _ => a.length - (intOf i).toNat)
  case atStart => exact ⟨0, _, Nat.zero_le _, rfl, rfl, rfl, Below.refl _ _⟩
  case round =>
    obtain ⟨k, wo, hk, rfl, rfl, rfl, HB⟩ := hrel
    by_cases hlt : k < a.length
    · obtain ⟨pl', cl', pa', ca', hy, g0, g1, g2, g3, g4, g5, g6⟩ := HKD.out wo HB.out k hlt
      obtain rfl := HP.out (by omega)
      have hki : (k : Int) < (a.length : Int) := by omega
      have hk0 : (0 : Int) ≤ (k : Int) := by omega
      have hkm : (k : Int) + 1 ≤ 9223372036854775807 := by have := HL4.out; omega
      have hsy := HSY.out k hlt
      have hsj := HSZ.out k (by omega)
      have HS1 := Lib.hid (HST.out k hlt)
      obtain ⟨W2, eW2⟩ : ∃ W2, wo.alloc (.cells #[.int .i64 a[k].kind, .int .i64 a[k].at_, .int .i64 a[k].num, .int .i64 a[k].ty, .string a[k].name, .slice pl' a[k].lab.length cl', .slice pa' a[k].kids.length ca'] 26) = W2 := ⟨_, rfl⟩
      have hb2 : Below wo.heap.size wo W2 := by rw [← eW2]; exact (Below.refl _ _).alloc (Nat.le_refl _) _
      have hB2 : Blk W2 wo.heap.size (exC a[k] (.slice pl' a[k].lab.length cl') (.slice pa' a[k].kids.length ca')) 26 := by rw [← eW2]; exact Blk.new _ _ _
      have HB2 := Lib.hid (HB.out.trans (hb2.mono HB.out.size))
      have HC := Lib.hid (HK.out k hlt W2 _ (HBW.out.trans (HB2.out.mono HBW.out.size)) (hy.stays (keeps_of_below hb2)))
      obtain ⟨c0, c1, c2, c3, c4, c5, c6⟩ := hB2.cells7
      have HTZ0 : Hid (k = 0 → joinT ((textsP a 0 0).take k) commaSp = ⟨#[]⟩) := fun h => by subst h; rfl
      generalize textP a[k] 0 = J at *
      generalize joinT ((textsP a 0 0).take k) commaSp = T at *
      generalize a[k] = y at *
      have HLT := Lib.hid hlt
      clear hb2 hB2 hy hk hlt
      by_cases hz : k = 0
      · have hkz : decide (0 < k) = false := by simp; omega
        have HS2 : Hid (joinT ((textsP a 0 0).take (k + 1)) commaSp = J) := by have := HS1.out; rw [if_pos hz] at this; exact this
        have HZ := Lib.hid hz
        clear hz
        have hs1 : ¬ 9223372036854775807 < T.size + J.size := by omega
        have HTZ : Hid (k = 0 → T = ⟨#[]⟩) := HTZ0
        clear hsj hsy
        go_upto_if 40 with fail
        clear hkz
        go_wp2_with (fail)
        refine HC.out.mono ?_
        rintro e w3 ⟨rfl, hb3⟩
        have HB3 := Lib.hid (HB2.out.trans (hb3.mono HB2.out.size))
        clear hb3
        go_wp2_with (fail)
        go_roundw
        case rel => exact ⟨k + 1, _, by have h1 := HLT.out; omega, by go_num, by rw [HS2.out, HTZ.out HZ.out]; exact congrArg Value.string (empty_append _), rfl, HB3.out⟩
        case measure => have h1 := HLT.out; simp [intOf]; omega
      · have hkz : decide (0 < k) = true := by simp; omega
        have HS2 : Hid (joinT ((textsP a 0 0).take (k + 1)) commaSp = T ++ commaSp ++ J) := by have := HS1.out; rw [if_neg hz] at this; exact this
        clear hz
        have hs1 : ¬ 9223372036854775807 < T.size + (⟨#[44, 32]⟩ : Txt).size := by show ¬ 9223372036854775807 < T.size + 2; omega
        have hs2 : ¬ 9223372036854775807 < T.size + 2 := by omega
        have hs3 : ¬ 9223372036854775807 < T.size + 2 + J.size := by omega
        clear hsj hsy
        go_upto_if 40 with fail
        clear hkz
        go_wp2_with (fail)
        refine HC.out.mono ?_
        rintro e w3 ⟨rfl, hb3⟩
        have HB3 := Lib.hid (HB2.out.trans (hb3.mono HB2.out.size))
        clear hb3
        go_wp2_with (fail)
        go_roundw
        case rel => exact ⟨k + 1, _, by have h1 := HLT.out; omega, by go_num, by rw [HS2.out]; rfl, rfl, HB3.out⟩
        case measure => have h1 := HLT.out; simp [intOf]; omega
    · have hki : ¬ (k : Int) < (a.length : Int) := by omega
      obtain rfl : k = a.length := by omega
      have hsj := HSZ.out a.length (Nat.le_refl _)
      rw [HTK.out] at hsj ⊢
      obtain ⟨q0, q1, q2, q3, q4, q5, q6⟩ := (HQ.out wo HB.out).cells7
      have HBZ := Lib.hid (HBW.out.trans (HB.out.mono HBW.out.size))
      generalize joinT (textsP a 0 0) commaSp = J at *
      have hs1 : ¬ 9223372036854775807 < name.size + 1 := by omega
      have hs2 : ¬ 9223372036854775807 < name.size + 1 + J.size := by omega
      have hs3 : ¬ 9223372036854775807 < name.size + 1 + J.size + 1 := by omega
      go_wp2_with (fail)
      go_ret
      exact ⟨by rw [HR.out]; rfl, HBZ.out⟩
set_option maxHeartbeats 4000000 in
set_option maxRecDepth 100000 in
theorem rtext_rel (at_ num ty : Int) (name : Txt) (l : Lab) (pl : Option Addr) (cl : Nat) (pa : Option Addr) (ca : Nat) (w : World) (y : Ex) (hl : Lbl w l (.slice pl l.length cl)) (hlg : longL l = false) (ha : Exs w [y] (.slice pa 1 ca)) (hsz0 : (textP y 0).size ≤ 413867158356) (hky : RTextC w y) :
    Calls Tryz.prog 28 #[.agg #[.int .i64 5, .int .i64 at_, .int .i64 num, .int .i64 ty, .string name, .slice pl l.length cl, .slice pa 1 ca]] w fun e w' => e = .returned (.string (textP (.mk 5 at_ num ty name l [y]) 0)) ∧ Below w.heap.size w w' := by
  obtain ⟨W1, eW⟩ : ∃ W1, w.alloc (.cells #[.int .i64 5, .int .i64 at_, .int .i64 num, .int .i64 ty, .string name, .slice pl l.length cl, .slice pa 1 ca] 26) = W1 := ⟨_, rfl⟩
  have hb1 : Below w.heap.size w W1 := by rw [← eW]; exact (Below.refl _ _).alloc (Nat.le_refl _) _
  have hB : Blk W1 w.heap.size [.int .i64 5, .int .i64 at_, .int .i64 num, .int .i64 ty, .string name, .slice pl l.length cl, .slice pa 1 ca] 26 := by rw [← eW]; exact Blk.new _ _ _
  have HQ : Hid (∀ W, Below W1.heap.size W1 W → Blk W w.heap.size [.int .i64 5, .int .i64 at_, .int .i64 num, .int .i64 ty, .string name, .slice pl l.length cl, .slice pa 1 ca] 26) := fun W hb => hB.below hb
  obtain ⟨q0, q1, q2, q3, q4, q5, q6⟩ := hB.cells7
  have HBW := Lib.hid hb1
  obtain ⟨b, o, c, p, e, hmax, hp, hkids⟩ := ha.at
  obtain ⟨rfl, rfl⟩ : pa = p ∧ ca = c := by simpa using e
  obtain rfl := hp (by show 0 < 1; decide)
  have hk0 := hkids 0 (by show 0 < 1; decide)
  simp only [List.getElem_cons_zero] at hk0
  obtain ⟨pl0, cl0, pa0, ca0, g01, g02, g03, g04, g05, g06, g07, g08, g09⟩ := hk0
  have HY0 : Hid (∀ W, Below W1.heap.size W1 W → ExIs W y (.agg #[.int .i64 y.kind, .int .i64 y.at_, .int .i64 y.num, .int .i64 y.ty, .string y.name, .slice pl0 y.lab.length cl0, .slice pa0 y.kids.length ca0])) := fun W hb => ⟨_, _, rfl, (g01.stays (keeps_of_below hb1)).stays (keeps_of_below hb), (g02.stays (keeps_of_below hb1)).stays (keeps_of_below hb)⟩
  have HK0 : Hid (∀ W, Below W1.heap.size W1 W → (W.cell? ⟨b, o, none⟩ = some (.int .i64 y.kind) ∧ W.cell? ⟨b, o + 1, none⟩ = some (.int .i64 y.at_) ∧ W.cell? ⟨b, o + 2, none⟩ = some (.int .i64 y.num) ∧ W.cell? ⟨b, o + 3, none⟩ = some (.int .i64 y.ty) ∧ W.cell? ⟨b, o + 4, none⟩ = some (.string y.name) ∧ W.cell? ⟨b, o + 5, none⟩ = some (.slice pl0 y.lab.length cl0) ∧ W.cell? ⟨b, o + 6, none⟩ = some (.slice pa0 y.kids.length ca0))) := fun W hb => by
    have k1 := keeps_of_below hb1
    have k2 := keeps_of_below hb
    refine ⟨?_, ?_, ?_, ?_, ?_, ?_, ?_⟩
    · simpa using k2.2 _ _ _ (k1.2 _ _ _ g03)
    · simpa using k2.2 _ _ _ (k1.2 _ _ _ g04)
    · simpa using k2.2 _ _ _ (k1.2 _ _ _ g05)
    · simpa using k2.2 _ _ _ (k1.2 _ _ _ g06)
    · simpa using k2.2 _ _ _ (k1.2 _ _ _ g07)
    · simpa using k2.2 _ _ _ (k1.2 _ _ _ g08)
    · simpa using k2.2 _ _ _ (k1.2 _ _ _ g09)
  have HTX0 : Hid (∀ W, Below W1.heap.size W1 W → Calls Tryz.prog 28 #[(.agg #[.int .i64 y.kind, .int .i64 y.at_, .int .i64 y.num, .int .i64 y.ty, .string y.name, .slice pl0 y.lab.length cl0, .slice pa0 y.kids.length ca0])] W fun e w' => e = .returned (.string (textP y 0)) ∧ Below W.heap.size W w') := fun W hb => hky W _ (hb1.trans (hb.mono hb1.size)) (HY0.out W hb)
  have HIN0 : Hid (∀ W, Below W1.heap.size W1 W → Calls Tryz.prog 66 #[(.agg #[.int .i64 y.kind, .int .i64 y.at_, .int .i64 y.num, .int .i64 y.ty, .string y.name, .slice pl0 y.lab.length cl0, .slice pa0 y.kids.length ca0])] W fun e w' => e = .returned (.string (tLeft ++ textP y 0 ++ tRight)) ∧ Below W.heap.size W w') := fun W hb => refIn_calls y _ W (HY0.out W hb) hsz0 (hky.later (hb1.trans (hb.mono hb1.size)))
  have HTW0 : Hid (∀ W, Below W1.heap.size W1 W → Calls Tryz.prog 69 #[(.agg #[.int .i64 y.kind, .int .i64 y.at_, .int .i64 y.num, .int .i64 y.ty, .string y.name, .slice pl0 y.lab.length cl0, .slice pa0 y.kids.length ca0])] W fun e w' => e = .returned (.bool (twoB y)) ∧ Below W.heap.size W w') := fun W hb => refTwo_calls y _ W (HY0.out W hb)
  have hPR : Hid (∀ W, Below W1.heap.size W1 W → Calls Tryz.prog 68 #[.slice pl l.length cl] W fun e w' => e = .returned (.string (printS l)) ∧ Below W.heap.size W w') := fun W hb => by
    have e : printS l = printT l := by unfold printS; rw [hlg]; rfl
    rw [e]
    exact labelText_calls l _ W (hl.stays (keeps_of_below (hb1.trans (hb.mono hb1.size)))) hlg
  have HPR := hPR
  have HR : Hid (textP (.mk 5 at_ num ty name l [y]) 0 = releaseT ++ textP y 0 ++ toT ++ printS l ++ tRight) := by unfold Hid; rw [textP, if_neg (by decide), if_neg (by decide), if_neg (by decide), if_pos rfl]; rfl
  have hps := printS_size l
  generalize printS l = P at *
  generalize textP y 0 = J at *
  have hs1 : ¬ 9223372036854775807 < 8 + J.size := by omega
  have hs2 : ¬ 9223372036854775807 < 8 + J.size + 4 := by omega
  have hs3 : ¬ 9223372036854775807 < 8 + J.size + 4 + P.size := by omega
  have hs4 : ¬ 9223372036854775807 < 8 + J.size + 4 + P.size + 1 := by omega
  have HS : Hid (∀ W, Below W1.heap.size W1 W → (W.cell? ⟨w.heap.size, 5, none⟩ = some (.slice pl l.length cl) ∧ W.cell? ⟨w.heap.size, 6, none⟩ = some (.slice (some ⟨b, o, none⟩) 1 ca) ∧ W.cell? ⟨b, o, none⟩ = some (.int .i64 y.kind) ∧ W.cell? ⟨b, o + 1, none⟩ = some (.int .i64 y.at_) ∧ W.cell? ⟨b, o + 2, none⟩ = some (.int .i64 y.num) ∧ W.cell? ⟨b, o + 3, none⟩ = some (.int .i64 y.ty) ∧ W.cell? ⟨b, o + 4, none⟩ = some (.string y.name) ∧ W.cell? ⟨b, o + 5, none⟩ = some (.slice pl0 y.lab.length cl0) ∧ W.cell? ⟨b, o + 6, none⟩ = some (.slice pa0 y.kids.length ca0))) := fun W hb => ⟨(HQ.out W hb).cell 5, (HQ.out W hb).cell 6, HK0.out W hb⟩
  have HD : Hid (Below W1.heap.size W1 W1.drew) := below_drew1 W1
  clear hB hb1 ha hky hl e hmax hp hkids g01 g02 g03 g04 g05 g06 g07 g08 g09 HY0 HIN0 HTW0 hPR
  go_enter Tryz.func28, Tryz.ntmps28
  go_wp2_with (fail)
  go_region_held3 (fun w' => w'.cell? ⟨w.heap.size, 5, none⟩ = some (.slice pl l.length cl) ∧ w'.cell? ⟨w.heap.size, 6, none⟩ = some (.slice (some ⟨b, o, none⟩) 1 ca) ∧ w'.cell? ⟨b, o, none⟩ = some (.int .i64 y.kind) ∧ w'.cell? ⟨b, o + 1, none⟩ = some (.int .i64 y.at_) ∧ w'.cell? ⟨b, o + 2, none⟩ = some (.int .i64 y.num) ∧ w'.cell? ⟨b, o + 3, none⟩ = some (.int .i64 y.ty) ∧ w'.cell? ⟨b, o + 4, none⟩ = some (.string y.name) ∧ w'.cell? ⟨b, o + 5, none⟩ = some (.slice pl0 y.lab.length cl0) ∧ w'.cell? ⟨b, o + 6, none⟩ = some (.slice pa0 y.kids.length ca0))
    (first | exact HS.out _ HZ6.out | exact HS.out _ HZ5.out | exact HS.out _ HZ4.out | exact HS.out _ HZ3.out | exact HS.out _ HD.out)
    (first
      | (go_at_call 68
         refine (HPR.out _ HZ3.out).mono ?_
         rintro e w4 ⟨rfl, hb4⟩
         have HZ4 : Hid (Below W1.heap.size W1 w4) := HZ3.out.trans (hb4.mono HZ3.out.size)
         have HZZ := HZ4)
      | (go_at_call 28
         refine (HTX0.out _ HZ5.out).mono ?_
         rintro e w6 ⟨rfl, hb6⟩
         have HZ6 : Hid (Below W1.heap.size W1 w6) := HZ5.out.trans (hb6.mono HZ5.out.size)
         have HZZ := HZ6)
      | (go_at_call 28
         refine (HTX0.out _ HD.out).mono ?_
         rintro e w3 ⟨rfl, hb3⟩
         have HZ3 : Hid (Below W1.heap.size W1 w3) := HD.out.trans (hb3.mono HD.out.size))
      | (go_at_call 68
         refine (HPR.out _ HD.out).mono ?_
         rintro e w5 ⟨rfl, hb5⟩
         have HZ5 : Hid (Below W1.heap.size W1 w5) := HD.out.trans (hb5.mono HD.out.size)))
  all_goals (try go_wp2_with (fail))
  all_goals go_ret
  all_goals exact ⟨by rw [HR.out]; rfl, HBW.out.trans (HZZ.out.mono HBW.out.size)⟩
set_option maxHeartbeats 4000000 in
set_option maxRecDepth 100000 in
theorem rtext_onein (at_ num ty : Int) (name : Txt) (l : Lab) (pl : Option Addr) (cl : Nat) (pa : Option Addr) (ca : Nat) (w : World) (y : Ex) (htw : twoB y = true) (ha : Exs w [y] (.slice pa 1 ca)) (hn12 : name.size ≤ 12) (hsz0 : (textP y 0).size ≤ 413867158356) (hty : textP y 6 = quoteT true (textP y 0)) (hky : RTextC w y) :
    Calls Tryz.prog 28 #[.agg #[.int .i64 3, .int .i64 at_, .int .i64 num, .int .i64 ty, .string name, .slice pl l.length cl, .slice pa 1 ca]] w fun e w' => e = .returned (.string (textP (.mk 3 at_ num ty name l [y]) 0)) ∧ Below w.heap.size w w' := by
  obtain ⟨W1, eW⟩ : ∃ W1, w.alloc (.cells #[.int .i64 3, .int .i64 at_, .int .i64 num, .int .i64 ty, .string name, .slice pl l.length cl, .slice pa 1 ca] 26) = W1 := ⟨_, rfl⟩
  have hb1 : Below w.heap.size w W1 := by rw [← eW]; exact (Below.refl _ _).alloc (Nat.le_refl _) _
  have hB : Blk W1 w.heap.size [.int .i64 3, .int .i64 at_, .int .i64 num, .int .i64 ty, .string name, .slice pl l.length cl, .slice pa 1 ca] 26 := by rw [← eW]; exact Blk.new _ _ _
  have HQ : Hid (∀ W, Below W1.heap.size W1 W → Blk W w.heap.size [.int .i64 3, .int .i64 at_, .int .i64 num, .int .i64 ty, .string name, .slice pl l.length cl, .slice pa 1 ca] 26) := fun W hb => hB.below hb
  obtain ⟨q0, q1, q2, q3, q4, q5, q6⟩ := hB.cells7
  have HBW := Lib.hid hb1
  obtain ⟨b, o, c, p, e, hmax, hp, hkids⟩ := ha.at
  obtain ⟨rfl, rfl⟩ : pa = p ∧ ca = c := by simpa using e
  obtain rfl := hp (by show 0 < 1; decide)
  have hk0 := hkids 0 (by show 0 < 1; decide)
  simp only [List.getElem_cons_zero] at hk0
  obtain ⟨pl0, cl0, pa0, ca0, g01, g02, g03, g04, g05, g06, g07, g08, g09⟩ := hk0
  have HY0 : Hid (∀ W, Below W1.heap.size W1 W → ExIs W y (.agg #[.int .i64 y.kind, .int .i64 y.at_, .int .i64 y.num, .int .i64 y.ty, .string y.name, .slice pl0 y.lab.length cl0, .slice pa0 y.kids.length ca0])) := fun W hb => ⟨_, _, rfl, (g01.stays (keeps_of_below hb1)).stays (keeps_of_below hb), (g02.stays (keeps_of_below hb1)).stays (keeps_of_below hb)⟩
  have HK0 : Hid (∀ W, Below W1.heap.size W1 W → (W.cell? ⟨b, o, none⟩ = some (.int .i64 y.kind) ∧ W.cell? ⟨b, o + 1, none⟩ = some (.int .i64 y.at_) ∧ W.cell? ⟨b, o + 2, none⟩ = some (.int .i64 y.num) ∧ W.cell? ⟨b, o + 3, none⟩ = some (.int .i64 y.ty) ∧ W.cell? ⟨b, o + 4, none⟩ = some (.string y.name) ∧ W.cell? ⟨b, o + 5, none⟩ = some (.slice pl0 y.lab.length cl0) ∧ W.cell? ⟨b, o + 6, none⟩ = some (.slice pa0 y.kids.length ca0))) := fun W hb => by
    have k1 := keeps_of_below hb1
    have k2 := keeps_of_below hb
    refine ⟨?_, ?_, ?_, ?_, ?_, ?_, ?_⟩
    · simpa using k2.2 _ _ _ (k1.2 _ _ _ g03)
    · simpa using k2.2 _ _ _ (k1.2 _ _ _ g04)
    · simpa using k2.2 _ _ _ (k1.2 _ _ _ g05)
    · simpa using k2.2 _ _ _ (k1.2 _ _ _ g06)
    · simpa using k2.2 _ _ _ (k1.2 _ _ _ g07)
    · simpa using k2.2 _ _ _ (k1.2 _ _ _ g08)
    · simpa using k2.2 _ _ _ (k1.2 _ _ _ g09)
  have HTX0 : Hid (∀ W, Below W1.heap.size W1 W → Calls Tryz.prog 28 #[(.agg #[.int .i64 y.kind, .int .i64 y.at_, .int .i64 y.num, .int .i64 y.ty, .string y.name, .slice pl0 y.lab.length cl0, .slice pa0 y.kids.length ca0])] W fun e w' => e = .returned (.string (textP y 0)) ∧ Below W.heap.size W w') := fun W hb => hky W _ (hb1.trans (hb.mono hb1.size)) (HY0.out W hb)
  have HIN0 : Hid (∀ W, Below W1.heap.size W1 W → Calls Tryz.prog 66 #[(.agg #[.int .i64 y.kind, .int .i64 y.at_, .int .i64 y.num, .int .i64 y.ty, .string y.name, .slice pl0 y.lab.length cl0, .slice pa0 y.kids.length ca0])] W fun e w' => e = .returned (.string (tLeft ++ textP y 0 ++ tRight)) ∧ Below W.heap.size W w') := fun W hb => refIn_calls y _ W (HY0.out W hb) hsz0 (hky.later (hb1.trans (hb.mono hb1.size)))
  have HTW0 : Hid (∀ W, Below W1.heap.size W1 W → Calls Tryz.prog 69 #[(.agg #[.int .i64 y.kind, .int .i64 y.at_, .int .i64 y.num, .int .i64 y.ty, .string y.name, .slice pl0 y.lab.length cl0, .slice pa0 y.kids.length ca0])] W fun e w' => e = .returned (.bool (twoB y)) ∧ Below W.heap.size W w') := fun W hb => refTwo_calls y _ W (HY0.out W hb)
  rw [htw] at HTW0
  have HR : Hid (textP (.mk 3 at_ num ty name l [y]) 0 = name ++ (tLeft ++ textP y 0 ++ tRight)) := by
    unfold Hid
    rw [textP, if_neg (by decide), if_neg (by decide), if_neg (by decide), if_neg (by decide), if_pos (show [y].length = 1 from rfl)]
    show name ++ textP y 6 = _
    rw [hty]
    rfl
  have hsq : (tLeft ++ textP y 0 ++ tRight).size = (textP y 0).size + 2 := two_size
  generalize (tLeft ++ textP y 0 ++ tRight) = J at *
  have hs1 : ¬ 9223372036854775807 < name.size + J.size := by omega
  clear hsq hsz0
  have HS : Hid (∀ W, Below W1.heap.size W1 W → (W.cell? ⟨w.heap.size, 4, none⟩ = some (.string name) ∧ W.cell? ⟨w.heap.size, 6, none⟩ = some (.slice (some ⟨b, o, none⟩) 1 ca) ∧ W.cell? ⟨b, o, none⟩ = some (.int .i64 y.kind) ∧ W.cell? ⟨b, o + 1, none⟩ = some (.int .i64 y.at_) ∧ W.cell? ⟨b, o + 2, none⟩ = some (.int .i64 y.num) ∧ W.cell? ⟨b, o + 3, none⟩ = some (.int .i64 y.ty) ∧ W.cell? ⟨b, o + 4, none⟩ = some (.string y.name) ∧ W.cell? ⟨b, o + 5, none⟩ = some (.slice pl0 y.lab.length cl0) ∧ W.cell? ⟨b, o + 6, none⟩ = some (.slice pa0 y.kids.length ca0))) := fun W hb => ⟨(HQ.out W hb).cell 4, (HQ.out W hb).cell 6, HK0.out W hb⟩
  clear hB hb1 ha hky e hmax hp hkids g01 g02 g03 g04 g05 g06 g07 g08 g09 HY0 htw hty
  obtain ⟨k0, k1, k2, k3, k4, k5, k6⟩ := HK0.out _ (Below.refl _ _)
  have eg : ∀ args w, (callFunc 69 args).run Tryz.prog w = .ok (.enter 69 args) w := enters_at Tryz.func69 (by kernel_rfl) rfl
  have eh : ∀ args w, (callFunc 66 args).run Tryz.prog w = .ok (.enter 66 args) w := enters_at Tryz.func66 (by kernel_rfl) rfl
  go_enter Tryz.func28, Tryz.ntmps28
  go_wp2_with (fail)
  refine (HTW0.out _ (Below.refl _ _)).mono ?_
  rintro e w2 ⟨rfl, hb2⟩
  have HD : Hid (Below W1.heap.size W1 w2.drew) := hb2.drew
  clear hb2 q0 q1 q2 q3 q4 q5 q6 k0 k1 k2 k3 k4 k5 k6
  go_wp2_with (fail)
  go_region_held3 (fun w' => w'.cell? ⟨w.heap.size, 4, none⟩ = some (.string name) ∧ w'.cell? ⟨w.heap.size, 6, none⟩ = some (.slice (some ⟨b, o, none⟩) 1 ca) ∧ w'.cell? ⟨b, o, none⟩ = some (.int .i64 y.kind) ∧ w'.cell? ⟨b, o + 1, none⟩ = some (.int .i64 y.at_) ∧ w'.cell? ⟨b, o + 2, none⟩ = some (.int .i64 y.num) ∧ w'.cell? ⟨b, o + 3, none⟩ = some (.int .i64 y.ty) ∧ w'.cell? ⟨b, o + 4, none⟩ = some (.string y.name) ∧ w'.cell? ⟨b, o + 5, none⟩ = some (.slice pl0 y.lab.length cl0) ∧ w'.cell? ⟨b, o + 6, none⟩ = some (.slice pa0 y.kids.length ca0))
    (first | exact HS.out _ HZ3.out | exact HS.out _ HD.out)
    (first
      | (go_at_call 66
         refine (HIN0.out _ HD.out).mono ?_
         rintro e w3 ⟨rfl, hb3⟩
         have HZ3 : Hid (Below W1.heap.size W1 w3) := HD.out.trans (hb3.mono HD.out.size)))
  all_goals (try go_wp2_with (fail))
  all_goals go_ret
  all_goals exact ⟨by rw [HR.out]; rfl, HBW.out.trans (HZ3.out.mono HBW.out.size)⟩
set_option maxHeartbeats 4000000 in
set_option maxRecDepth 100000 in
theorem rtext_one (at_ num ty : Int) (name : Txt) (l : Lab) (pl : Option Addr) (cl : Nat) (pa : Option Addr) (ca : Nat) (w : World) (y : Ex) (htw : twoB y = false) (ha : Exs w [y] (.slice pa 1 ca)) (hn12 : name.size ≤ 12) (hsz0 : (textP y 0).size ≤ 413867158356) (hty : textP y 6 = quoteT false (textP y 0)) (hky : RTextC w y) :
    Calls Tryz.prog 28 #[.agg #[.int .i64 3, .int .i64 at_, .int .i64 num, .int .i64 ty, .string name, .slice pl l.length cl, .slice pa 1 ca]] w fun e w' => e = .returned (.string (textP (.mk 3 at_ num ty name l [y]) 0)) ∧ Below w.heap.size w w' := by
  obtain ⟨W1, eW⟩ : ∃ W1, w.alloc (.cells #[.int .i64 3, .int .i64 at_, .int .i64 num, .int .i64 ty, .string name, .slice pl l.length cl, .slice pa 1 ca] 26) = W1 := ⟨_, rfl⟩
  have hb1 : Below w.heap.size w W1 := by rw [← eW]; exact (Below.refl _ _).alloc (Nat.le_refl _) _
  have hB : Blk W1 w.heap.size [.int .i64 3, .int .i64 at_, .int .i64 num, .int .i64 ty, .string name, .slice pl l.length cl, .slice pa 1 ca] 26 := by rw [← eW]; exact Blk.new _ _ _
  have HQ : Hid (∀ W, Below W1.heap.size W1 W → Blk W w.heap.size [.int .i64 3, .int .i64 at_, .int .i64 num, .int .i64 ty, .string name, .slice pl l.length cl, .slice pa 1 ca] 26) := fun W hb => hB.below hb
  obtain ⟨q0, q1, q2, q3, q4, q5, q6⟩ := hB.cells7
  have HBW := Lib.hid hb1
  obtain ⟨b, o, c, p, e, hmax, hp, hkids⟩ := ha.at
  obtain ⟨rfl, rfl⟩ : pa = p ∧ ca = c := by simpa using e
  obtain rfl := hp (by show 0 < 1; decide)
  have hk0 := hkids 0 (by show 0 < 1; decide)
  simp only [List.getElem_cons_zero] at hk0
  obtain ⟨pl0, cl0, pa0, ca0, g01, g02, g03, g04, g05, g06, g07, g08, g09⟩ := hk0
  have HY0 : Hid (∀ W, Below W1.heap.size W1 W → ExIs W y (.agg #[.int .i64 y.kind, .int .i64 y.at_, .int .i64 y.num, .int .i64 y.ty, .string y.name, .slice pl0 y.lab.length cl0, .slice pa0 y.kids.length ca0])) := fun W hb => ⟨_, _, rfl, (g01.stays (keeps_of_below hb1)).stays (keeps_of_below hb), (g02.stays (keeps_of_below hb1)).stays (keeps_of_below hb)⟩
  have HK0 : Hid (∀ W, Below W1.heap.size W1 W → (W.cell? ⟨b, o, none⟩ = some (.int .i64 y.kind) ∧ W.cell? ⟨b, o + 1, none⟩ = some (.int .i64 y.at_) ∧ W.cell? ⟨b, o + 2, none⟩ = some (.int .i64 y.num) ∧ W.cell? ⟨b, o + 3, none⟩ = some (.int .i64 y.ty) ∧ W.cell? ⟨b, o + 4, none⟩ = some (.string y.name) ∧ W.cell? ⟨b, o + 5, none⟩ = some (.slice pl0 y.lab.length cl0) ∧ W.cell? ⟨b, o + 6, none⟩ = some (.slice pa0 y.kids.length ca0))) := fun W hb => by
    have k1 := keeps_of_below hb1
    have k2 := keeps_of_below hb
    refine ⟨?_, ?_, ?_, ?_, ?_, ?_, ?_⟩
    · simpa using k2.2 _ _ _ (k1.2 _ _ _ g03)
    · simpa using k2.2 _ _ _ (k1.2 _ _ _ g04)
    · simpa using k2.2 _ _ _ (k1.2 _ _ _ g05)
    · simpa using k2.2 _ _ _ (k1.2 _ _ _ g06)
    · simpa using k2.2 _ _ _ (k1.2 _ _ _ g07)
    · simpa using k2.2 _ _ _ (k1.2 _ _ _ g08)
    · simpa using k2.2 _ _ _ (k1.2 _ _ _ g09)
  have HTX0 : Hid (∀ W, Below W1.heap.size W1 W → Calls Tryz.prog 28 #[(.agg #[.int .i64 y.kind, .int .i64 y.at_, .int .i64 y.num, .int .i64 y.ty, .string y.name, .slice pl0 y.lab.length cl0, .slice pa0 y.kids.length ca0])] W fun e w' => e = .returned (.string (textP y 0)) ∧ Below W.heap.size W w') := fun W hb => hky W _ (hb1.trans (hb.mono hb1.size)) (HY0.out W hb)
  have HIN0 : Hid (∀ W, Below W1.heap.size W1 W → Calls Tryz.prog 66 #[(.agg #[.int .i64 y.kind, .int .i64 y.at_, .int .i64 y.num, .int .i64 y.ty, .string y.name, .slice pl0 y.lab.length cl0, .slice pa0 y.kids.length ca0])] W fun e w' => e = .returned (.string (tLeft ++ textP y 0 ++ tRight)) ∧ Below W.heap.size W w') := fun W hb => refIn_calls y _ W (HY0.out W hb) hsz0 (hky.later (hb1.trans (hb.mono hb1.size)))
  have HTW0 : Hid (∀ W, Below W1.heap.size W1 W → Calls Tryz.prog 69 #[(.agg #[.int .i64 y.kind, .int .i64 y.at_, .int .i64 y.num, .int .i64 y.ty, .string y.name, .slice pl0 y.lab.length cl0, .slice pa0 y.kids.length ca0])] W fun e w' => e = .returned (.bool (twoB y)) ∧ Below W.heap.size W w') := fun W hb => refTwo_calls y _ W (HY0.out W hb)
  rw [htw] at HTW0
  have HR : Hid (textP (.mk 3 at_ num ty name l [y]) 0 = name ++ textP y 0) := by
    unfold Hid
    rw [textP, if_neg (by decide), if_neg (by decide), if_neg (by decide), if_neg (by decide), if_pos (show [y].length = 1 from rfl)]
    show name ++ textP y 6 = _
    rw [hty]
    rfl
  have hsq : (tLeft ++ textP y 0 ++ tRight).size = (textP y 0).size + 2 := two_size
  generalize textP y 0 = J at *
  have hs1 : ¬ 9223372036854775807 < name.size + J.size := by omega
  clear hsq hsz0
  have HS : Hid (∀ W, Below W1.heap.size W1 W → (W.cell? ⟨w.heap.size, 4, none⟩ = some (.string name) ∧ W.cell? ⟨w.heap.size, 6, none⟩ = some (.slice (some ⟨b, o, none⟩) 1 ca) ∧ W.cell? ⟨b, o, none⟩ = some (.int .i64 y.kind) ∧ W.cell? ⟨b, o + 1, none⟩ = some (.int .i64 y.at_) ∧ W.cell? ⟨b, o + 2, none⟩ = some (.int .i64 y.num) ∧ W.cell? ⟨b, o + 3, none⟩ = some (.int .i64 y.ty) ∧ W.cell? ⟨b, o + 4, none⟩ = some (.string y.name) ∧ W.cell? ⟨b, o + 5, none⟩ = some (.slice pl0 y.lab.length cl0) ∧ W.cell? ⟨b, o + 6, none⟩ = some (.slice pa0 y.kids.length ca0))) := fun W hb => ⟨(HQ.out W hb).cell 4, (HQ.out W hb).cell 6, HK0.out W hb⟩
  clear hB hb1 ha hky e hmax hp hkids g01 g02 g03 g04 g05 g06 g07 g08 g09 HY0 htw hty
  obtain ⟨k0, k1, k2, k3, k4, k5, k6⟩ := HK0.out _ (Below.refl _ _)
  have eg : ∀ args w, (callFunc 69 args).run Tryz.prog w = .ok (.enter 69 args) w := enters_at Tryz.func69 (by kernel_rfl) rfl
  have eh : ∀ args w, (callFunc 66 args).run Tryz.prog w = .ok (.enter 66 args) w := enters_at Tryz.func66 (by kernel_rfl) rfl
  go_enter Tryz.func28, Tryz.ntmps28
  go_wp2_with (fail)
  refine (HTW0.out _ (Below.refl _ _)).mono ?_
  rintro e w2 ⟨rfl, hb2⟩
  have HD : Hid (Below W1.heap.size W1 w2.drew) := hb2.drew
  clear hb2 q0 q1 q2 q3 q4 q5 q6 k0 k1 k2 k3 k4 k5 k6
  go_wp2_with (fail)
  go_region_held3 (fun w' => w'.cell? ⟨w.heap.size, 4, none⟩ = some (.string name) ∧ w'.cell? ⟨w.heap.size, 6, none⟩ = some (.slice (some ⟨b, o, none⟩) 1 ca) ∧ w'.cell? ⟨b, o, none⟩ = some (.int .i64 y.kind) ∧ w'.cell? ⟨b, o + 1, none⟩ = some (.int .i64 y.at_) ∧ w'.cell? ⟨b, o + 2, none⟩ = some (.int .i64 y.num) ∧ w'.cell? ⟨b, o + 3, none⟩ = some (.int .i64 y.ty) ∧ w'.cell? ⟨b, o + 4, none⟩ = some (.string y.name) ∧ w'.cell? ⟨b, o + 5, none⟩ = some (.slice pl0 y.lab.length cl0) ∧ w'.cell? ⟨b, o + 6, none⟩ = some (.slice pa0 y.kids.length ca0))
    (first | exact HS.out _ HZ3.out | exact HS.out _ HD.out)
    (first
      | (go_at_call 28
         refine (HTX0.out _ HD.out).mono ?_
         rintro e w3 ⟨rfl, hb3⟩
         have HZ3 : Hid (Below W1.heap.size W1 w3) := HD.out.trans (hb3.mono HD.out.size)))
  all_goals (try go_wp2_with (fail))
  all_goals go_ret
  all_goals exact ⟨by rw [HR.out]; rfl, HBW.out.trans (HZ3.out.mono HBW.out.size)⟩
set_option maxHeartbeats 4000000 in
set_option maxRecDepth 100000 in
theorem rtext_two (at_ num ty : Int) (name : Txt) (l : Lab) (pl : Option Addr) (cl : Nat) (pa : Option Addr) (ca : Nat) (w : World) (y z : Ex) (hnm : okTxt name) (hyn : okTxt y.name) (hzn : okTxt z.name) (hn2 : name.size ≤ 2) (ha : Exs w [y, z] (.slice pa 2 ca)) (hsz0 : (textP y 0).size ≤ 413867158356) (hsz1 : (textP z 0).size ≤ 413867158356) (hlv : 0 < levelT name) (hty : textP y (levelT name) = quoteT (twoB y && decide (levelT y.name < levelT name)) (textP y 0)) (htz : textP z (levelT name + 1) = quoteT (twoB z && decide (levelT z.name ≤ levelT name)) (textP z 0)) (hky : RTextC w y) (hkz : RTextC w z) :
    Calls Tryz.prog 28 #[.agg #[.int .i64 3, .int .i64 at_, .int .i64 num, .int .i64 ty, .string name, .slice pl l.length cl, .slice pa 2 ca]] w fun e w' => e = .returned (.string (textP (.mk 3 at_ num ty name l [y, z]) 0)) ∧ Below w.heap.size w w' := by
  obtain ⟨W1, eW⟩ : ∃ W1, w.alloc (.cells #[.int .i64 3, .int .i64 at_, .int .i64 num, .int .i64 ty, .string name, .slice pl l.length cl, .slice pa 2 ca] 26) = W1 := ⟨_, rfl⟩
  have hb1 : Below w.heap.size w W1 := by rw [← eW]; exact (Below.refl _ _).alloc (Nat.le_refl _) _
  have hB : Blk W1 w.heap.size [.int .i64 3, .int .i64 at_, .int .i64 num, .int .i64 ty, .string name, .slice pl l.length cl, .slice pa 2 ca] 26 := by rw [← eW]; exact Blk.new _ _ _
  have HQ : Hid (∀ W, Below W1.heap.size W1 W → Blk W w.heap.size [.int .i64 3, .int .i64 at_, .int .i64 num, .int .i64 ty, .string name, .slice pl l.length cl, .slice pa 2 ca] 26) := fun W hb => hB.below hb
  obtain ⟨q0, q1, q2, q3, q4, q5, q6⟩ := hB.cells7
  have HBW := Lib.hid hb1
  obtain ⟨b, o, c, p, e, hmax, hp, hkids⟩ := ha.at
  obtain ⟨rfl, rfl⟩ : pa = p ∧ ca = c := by simpa using e
  obtain rfl := hp (by show 0 < 2; decide)
  have hk0 := hkids 0 (by show 0 < 2; decide)
  have hk1 := hkids 1 (by show 1 < 2; decide)
  simp only [List.getElem_cons_zero, List.getElem_cons_succ] at hk0 hk1
  obtain ⟨pl0, cl0, pa0, ca0, g01, g02, g03, g04, g05, g06, g07, g08, g09⟩ := hk0
  have HY0 : Hid (∀ W, Below W1.heap.size W1 W → ExIs W y (.agg #[.int .i64 y.kind, .int .i64 y.at_, .int .i64 y.num, .int .i64 y.ty, .string y.name, .slice pl0 y.lab.length cl0, .slice pa0 y.kids.length ca0])) := fun W hb => ⟨_, _, rfl, (g01.stays (keeps_of_below hb1)).stays (keeps_of_below hb), (g02.stays (keeps_of_below hb1)).stays (keeps_of_below hb)⟩
  have HK0 : Hid (∀ W, Below W1.heap.size W1 W → (W.cell? ⟨b, o, none⟩ = some (.int .i64 y.kind) ∧ W.cell? ⟨b, o + 1, none⟩ = some (.int .i64 y.at_) ∧ W.cell? ⟨b, o + 2, none⟩ = some (.int .i64 y.num) ∧ W.cell? ⟨b, o + 3, none⟩ = some (.int .i64 y.ty) ∧ W.cell? ⟨b, o + 4, none⟩ = some (.string y.name) ∧ W.cell? ⟨b, o + 5, none⟩ = some (.slice pl0 y.lab.length cl0) ∧ W.cell? ⟨b, o + 6, none⟩ = some (.slice pa0 y.kids.length ca0))) := fun W hb => by
    have k1 := keeps_of_below hb1
    have k2 := keeps_of_below hb
    refine ⟨?_, ?_, ?_, ?_, ?_, ?_, ?_⟩
    · simpa using k2.2 _ _ _ (k1.2 _ _ _ g03)
    · simpa using k2.2 _ _ _ (k1.2 _ _ _ g04)
    · simpa using k2.2 _ _ _ (k1.2 _ _ _ g05)
    · simpa using k2.2 _ _ _ (k1.2 _ _ _ g06)
    · simpa using k2.2 _ _ _ (k1.2 _ _ _ g07)
    · simpa using k2.2 _ _ _ (k1.2 _ _ _ g08)
    · simpa using k2.2 _ _ _ (k1.2 _ _ _ g09)
  have HTX0 : Hid (∀ W, Below W1.heap.size W1 W → Calls Tryz.prog 28 #[(.agg #[.int .i64 y.kind, .int .i64 y.at_, .int .i64 y.num, .int .i64 y.ty, .string y.name, .slice pl0 y.lab.length cl0, .slice pa0 y.kids.length ca0])] W fun e w' => e = .returned (.string (textP y 0)) ∧ Below W.heap.size W w') := fun W hb => hky W _ (hb1.trans (hb.mono hb1.size)) (HY0.out W hb)
  have HIN0 : Hid (∀ W, Below W1.heap.size W1 W → Calls Tryz.prog 66 #[(.agg #[.int .i64 y.kind, .int .i64 y.at_, .int .i64 y.num, .int .i64 y.ty, .string y.name, .slice pl0 y.lab.length cl0, .slice pa0 y.kids.length ca0])] W fun e w' => e = .returned (.string (tLeft ++ textP y 0 ++ tRight)) ∧ Below W.heap.size W w') := fun W hb => refIn_calls y _ W (HY0.out W hb) hsz0 (hky.later (hb1.trans (hb.mono hb1.size)))
  have HTW0 : Hid (∀ W, Below W1.heap.size W1 W → Calls Tryz.prog 69 #[(.agg #[.int .i64 y.kind, .int .i64 y.at_, .int .i64 y.num, .int .i64 y.ty, .string y.name, .slice pl0 y.lab.length cl0, .slice pa0 y.kids.length ca0])] W fun e w' => e = .returned (.bool (twoB y)) ∧ Below W.heap.size W w') := fun W hb => refTwo_calls y _ W (HY0.out W hb)
  obtain ⟨pl1, cl1, pa1, ca1, g11, g12, g13, g14, g15, g16, g17, g18, g19⟩ := hk1
  have HY1 : Hid (∀ W, Below W1.heap.size W1 W → ExIs W z (.agg #[.int .i64 z.kind, .int .i64 z.at_, .int .i64 z.num, .int .i64 z.ty, .string z.name, .slice pl1 z.lab.length cl1, .slice pa1 z.kids.length ca1])) := fun W hb => ⟨_, _, rfl, (g11.stays (keeps_of_below hb1)).stays (keeps_of_below hb), (g12.stays (keeps_of_below hb1)).stays (keeps_of_below hb)⟩
  have HK1 : Hid (∀ W, Below W1.heap.size W1 W → (W.cell? ⟨b, o + 7, none⟩ = some (.int .i64 z.kind) ∧ W.cell? ⟨b, o + 7 + 1, none⟩ = some (.int .i64 z.at_) ∧ W.cell? ⟨b, o + 7 + 2, none⟩ = some (.int .i64 z.num) ∧ W.cell? ⟨b, o + 7 + 3, none⟩ = some (.int .i64 z.ty) ∧ W.cell? ⟨b, o + 7 + 4, none⟩ = some (.string z.name) ∧ W.cell? ⟨b, o + 7 + 5, none⟩ = some (.slice pl1 z.lab.length cl1) ∧ W.cell? ⟨b, o + 7 + 6, none⟩ = some (.slice pa1 z.kids.length ca1))) := fun W hb => by
    have k1 := keeps_of_below hb1
    have k2 := keeps_of_below hb
    refine ⟨?_, ?_, ?_, ?_, ?_, ?_, ?_⟩
    · simpa using k2.2 _ _ _ (k1.2 _ _ _ g13)
    · simpa using k2.2 _ _ _ (k1.2 _ _ _ g14)
    · simpa using k2.2 _ _ _ (k1.2 _ _ _ g15)
    · simpa using k2.2 _ _ _ (k1.2 _ _ _ g16)
    · simpa using k2.2 _ _ _ (k1.2 _ _ _ g17)
    · simpa using k2.2 _ _ _ (k1.2 _ _ _ g18)
    · simpa using k2.2 _ _ _ (k1.2 _ _ _ g19)
  have HTX1 : Hid (∀ W, Below W1.heap.size W1 W → Calls Tryz.prog 28 #[(.agg #[.int .i64 z.kind, .int .i64 z.at_, .int .i64 z.num, .int .i64 z.ty, .string z.name, .slice pl1 z.lab.length cl1, .slice pa1 z.kids.length ca1])] W fun e w' => e = .returned (.string (textP z 0)) ∧ Below W.heap.size W w') := fun W hb => hkz W _ (hb1.trans (hb.mono hb1.size)) (HY1.out W hb)
  have HIN1 : Hid (∀ W, Below W1.heap.size W1 W → Calls Tryz.prog 66 #[(.agg #[.int .i64 z.kind, .int .i64 z.at_, .int .i64 z.num, .int .i64 z.ty, .string z.name, .slice pl1 z.lab.length cl1, .slice pa1 z.kids.length ca1])] W fun e w' => e = .returned (.string (tLeft ++ textP z 0 ++ tRight)) ∧ Below W.heap.size W w') := fun W hb => refIn_calls z _ W (HY1.out W hb) hsz1 (hkz.later (hb1.trans (hb.mono hb1.size)))
  have HTW1 : Hid (∀ W, Below W1.heap.size W1 W → Calls Tryz.prog 69 #[(.agg #[.int .i64 z.kind, .int .i64 z.at_, .int .i64 z.num, .int .i64 z.ty, .string z.name, .slice pl1 z.lab.length cl1, .slice pa1 z.kids.length ca1])] W fun e w' => e = .returned (.bool (twoB z)) ∧ Below W.heap.size W w') := fun W hb => refTwo_calls z _ W (HY1.out W hb)
  have HR : Hid (textP (.mk 3 at_ num ty name l [y, z]) 0 = quoteT (twoB y && decide (levelT y.name < levelT name)) (textP y 0) ++ blank1 ++ name ++ blank1 ++ quoteT (twoB z && decide (levelT z.name ≤ levelT name)) (textP z 0)) := by
    unfold Hid
    rw [textP, if_neg (by decide), if_neg (by decide), if_neg (by decide), if_neg (by decide), if_neg (show ¬ [y, z].length = 1 by show ¬ 2 = 1; decide), show decide (levelT name < 0) = false from by simp; omega]
    show textP y (levelT name) ++ blank1 ++ name ++ blank1 ++ textP z (levelT name + 1) = _
    rw [hty, htz]
  have HN2 := Lib.hid hn2
  have HSZ0 : Hid (∀ b, (quoteT b (textP y 0)).size ≤ 413867158358) := fun b => by cases b; exact Nat.le_trans hsz0 (by decide); show (tLeft ++ textP y 0 ++ tRight).size ≤ _; rw [two_size]; omega
  have HSZ1 : Hid (∀ b, (quoteT b (textP z 0)).size ≤ 413867158358) := fun b => by cases b; exact Nat.le_trans hsz1 (by decide); show (tLeft ++ textP z 0 ++ tRight).size ≤ _; rw [two_size]; omega
  obtain ⟨ext, hx1, hx2⟩ := exists_ext W1
  have hx3 : ∀ r w', Below (ext r).heap.size (ext r) w' → ∃ r', w' = ext r' := fun r w' h => ⟨w', hx2 _ ((hx1 r).trans (h.mono (hx1 r).size))⟩
  have HTX0 : Hid (∀ r, Calls Tryz.prog 28 #[(.agg #[.int .i64 y.kind, .int .i64 y.at_, .int .i64 y.num, .int .i64 y.ty, .string y.name, .slice pl0 y.lab.length cl0, .slice pa0 y.kids.length ca0])] (ext r) fun e w'' => e = .returned (.string (textP y 0)) ∧ ∃ r', w'' = ext r') := fun r => (HTX0.out _ (hx1 r)).mono fun e w' ⟨h1, h2⟩ => ⟨h1, hx3 r w' h2⟩
  have HTX1 : Hid (∀ r, Calls Tryz.prog 28 #[(.agg #[.int .i64 z.kind, .int .i64 z.at_, .int .i64 z.num, .int .i64 z.ty, .string z.name, .slice pl1 z.lab.length cl1, .slice pa1 z.kids.length ca1])] (ext r) fun e w'' => e = .returned (.string (textP z 0)) ∧ ∃ r', w'' = ext r') := fun r => (HTX1.out _ (hx1 r)).mono fun e w' ⟨h1, h2⟩ => ⟨h1, hx3 r w' h2⟩
  have HIN0 : Hid (∀ r, Calls Tryz.prog 66 #[(.agg #[.int .i64 y.kind, .int .i64 y.at_, .int .i64 y.num, .int .i64 y.ty, .string y.name, .slice pl0 y.lab.length cl0, .slice pa0 y.kids.length ca0])] (ext r) fun e w'' => e = .returned (.string (tLeft ++ textP y 0 ++ tRight)) ∧ ∃ r', w'' = ext r') := fun r => (HIN0.out _ (hx1 r)).mono fun e w' ⟨h1, h2⟩ => ⟨h1, hx3 r w' h2⟩
  have HIN1 : Hid (∀ r, Calls Tryz.prog 66 #[(.agg #[.int .i64 z.kind, .int .i64 z.at_, .int .i64 z.num, .int .i64 z.ty, .string z.name, .slice pl1 z.lab.length cl1, .slice pa1 z.kids.length ca1])] (ext r) fun e w'' => e = .returned (.string (tLeft ++ textP z 0 ++ tRight)) ∧ ∃ r', w'' = ext r') := fun r => (HIN1.out _ (hx1 r)).mono fun e w' ⟨h1, h2⟩ => ⟨h1, hx3 r w' h2⟩
  have HTW0 : Hid (∀ r, Calls Tryz.prog 69 #[(.agg #[.int .i64 y.kind, .int .i64 y.at_, .int .i64 y.num, .int .i64 y.ty, .string y.name, .slice pl0 y.lab.length cl0, .slice pa0 y.kids.length ca0])] (ext r) fun e w'' => e = .returned (.bool (twoB y)) ∧ ∃ r', w'' = ext r') := fun r => (HTW0.out _ (hx1 r)).mono fun e w' ⟨h1, h2⟩ => ⟨h1, hx3 r w' h2⟩
  have HTW1 : Hid (∀ r, Calls Tryz.prog 69 #[(.agg #[.int .i64 z.kind, .int .i64 z.at_, .int .i64 z.num, .int .i64 z.ty, .string z.name, .slice pl1 z.lab.length cl1, .slice pa1 z.kids.length ca1])] (ext r) fun e w'' => e = .returned (.bool (twoB z)) ∧ ∃ r', w'' = ext r') := fun r => (HTW1.out _ (hx1 r)).mono fun e w' ⟨h1, h2⟩ => ⟨h1, hx3 r w' h2⟩
  have HLN : Hid (∀ r, Calls Tryz.prog 26 #[.string name] (ext r) fun e w'' => e = .returned (.int .i64 (levelT name)) ∧ ∃ r', w'' = ext r') := fun r => (levelOf_calls name _ hnm).mono fun e w' ⟨h1, h2⟩ => ⟨h1, hx3 r w' h2⟩
  have HLY0 : Hid (∀ r, Calls Tryz.prog 26 #[.string y.name] (ext r) fun e w'' => e = .returned (.int .i64 (levelT y.name)) ∧ ∃ r', w'' = ext r') := fun r => (levelOf_calls y.name _ hyn).mono fun e w' ⟨h1, h2⟩ => ⟨h1, hx3 r w' h2⟩
  have HLY1 : Hid (∀ r, Calls Tryz.prog 26 #[.string z.name] (ext r) fun e w'' => e = .returned (.int .i64 (levelT z.name)) ∧ ∃ r', w'' = ext r') := fun r => (levelOf_calls z.name _ hzn).mono fun e w' ⟨h1, h2⟩ => ⟨h1, hx3 r w' h2⟩
  have HBX : Hid (∀ r, Below w.heap.size w (ext r)) := fun r => hb1.trans ((hx1 r).mono hb1.size)
  have HDR : Hid (∀ r, ∃ r', (ext r).drew = ext r') := fun r => hx3 r _ (below_drew1 _)
  have HD0 : Hid (∃ r', W1.drew = ext r') := ⟨_, hx2 _ (below_drew1 _)⟩
  have HS : ∀ r, (ext r).cell? ⟨w.heap.size, 4, none⟩ = some (.string name) ∧ (ext r).cell? ⟨w.heap.size, 6, none⟩ = some (.slice (some ⟨b, o, none⟩) 2 ca) ∧ (ext r).cell? ⟨b, o, none⟩ = some (.int .i64 y.kind) ∧ (ext r).cell? ⟨b, o + 1, none⟩ = some (.int .i64 y.at_) ∧ (ext r).cell? ⟨b, o + 2, none⟩ = some (.int .i64 y.num) ∧ (ext r).cell? ⟨b, o + 3, none⟩ = some (.int .i64 y.ty) ∧ (ext r).cell? ⟨b, o + 4, none⟩ = some (.string y.name) ∧ (ext r).cell? ⟨b, o + 5, none⟩ = some (.slice pl0 y.lab.length cl0) ∧ (ext r).cell? ⟨b, o + 6, none⟩ = some (.slice pa0 y.kids.length ca0) ∧ (ext r).cell? ⟨b, o + 7, none⟩ = some (.int .i64 z.kind) ∧ (ext r).cell? ⟨b, o + 7 + 1, none⟩ = some (.int .i64 z.at_) ∧ (ext r).cell? ⟨b, o + 7 + 2, none⟩ = some (.int .i64 z.num) ∧ (ext r).cell? ⟨b, o + 7 + 3, none⟩ = some (.int .i64 z.ty) ∧ (ext r).cell? ⟨b, o + 7 + 4, none⟩ = some (.string z.name) ∧ (ext r).cell? ⟨b, o + 7 + 5, none⟩ = some (.slice pl1 z.lab.length cl1) ∧ (ext r).cell? ⟨b, o + 7 + 6, none⟩ = some (.slice pa1 z.kids.length ca1) := fun r => by
    obtain ⟨a0, a1, a2, a3, a4, a5, a6⟩ := HK0.out _ (hx1 r)
    exact ⟨(HQ.out _ (hx1 r)).cell 4, (HQ.out _ (hx1 r)).cell 6, a0, a1, a2, a3, a4, a5, a6, HK1.out _ (hx1 r)⟩
  have u4 := fun r => (HS r).1
  have u6 := fun r => (HS r).2.1
  have y0 := fun r => (HS r).2.2.1
  have y1 := fun r => (HS r).2.2.2.1
  have y2 := fun r => (HS r).2.2.2.2.1
  have y3 := fun r => (HS r).2.2.2.2.2.1
  have y4 := fun r => (HS r).2.2.2.2.2.2.1
  have y5 := fun r => (HS r).2.2.2.2.2.2.2.1
  have y6 := fun r => (HS r).2.2.2.2.2.2.2.2.1
  have z0 := fun r => (HS r).2.2.2.2.2.2.2.2.2.1
  have z1 := fun r => (HS r).2.2.2.2.2.2.2.2.2.2.1
  have z2 := fun r => (HS r).2.2.2.2.2.2.2.2.2.2.2.1
  have z3 := fun r => (HS r).2.2.2.2.2.2.2.2.2.2.2.2.1
  have z4 := fun r => (HS r).2.2.2.2.2.2.2.2.2.2.2.2.2.1
  have z5 := fun r => (HS r).2.2.2.2.2.2.2.2.2.2.2.2.2.2.1
  have z6 := fun r => (HS r).2.2.2.2.2.2.2.2.2.2.2.2.2.2.2
  clear hB hb1 ha hky hkz e hmax hp hkids HS HQ HK0 HK1 hx1 hx2 hx3 HY0 HY1 hlv hty htz hsz0 hsz1 hnm hyn hzn hn2
  clear g01 g02 g03 g04 g05 g06 g07 g08 g09 g11 g12 g13 g14 g15 g16 g17 g18 g19
  generalize textP y 0 = Jy at *
  generalize textP z 0 = Jz at *
  generalize levelT name = ln at *
  generalize levelT y.name = ly at *
  generalize levelT z.name = lz at *
  generalize twoB y = ty_ at *
  generalize twoB z = tz_ at *
  have eg : ∀ args w, (callFunc 69 args).run Tryz.prog w = .ok (.enter 69 args) w := enters_at Tryz.func69 (by kernel_rfl) rfl
  have eh : ∀ args w, (callFunc 66 args).run Tryz.prog w = .ok (.enter 66 args) w := enters_at Tryz.func66 (by kernel_rfl) rfl
  go_enter Tryz.func28, Tryz.ntmps28
  go_upto_region 26 with fail
  go_cut [8, 9] from 10 (fun s8 s9 wc => s8 = .string Jy ∧ s9 = .string Jz ∧ ∃ r, wc = ext r)
  case first =>
    refine wp_region_cls (fun w' => ∃ r, w' = ext r) (by kernel_rfl) (by kernel_rfl) HD0.out ?_
    repeat go_big_quiet_step (first
      | (go_at_call 28; with_reducible exact HTX0.out _)
      | (go_at_call 28; with_reducible exact HTX1.out _))
    refine wpQuiet_nil ?_
    rintro w' ⟨r', rfl⟩
    go_wp2_with (fail)
    go_meet
    exact ⟨rfl, rfl, _, rfl⟩
  case rest =>
  obtain ⟨rfl, rfl, r26, rfl⟩ := hcut
  clear q0 q1 q2 q3 q4 q5 q6 eW
  go_upto_region 27 with fail
  go_cut [122] from 10 (fun s wd => s = .bool (ty_ && decide (ly < ln)) ∧ ∃ r, wd = ext r)
  case first =>
    cases ty_ with
    | false =>
      refine wp_region_cls (fun w' => ∃ r, w' = ext r) (by kernel_rfl) (by kernel_rfl) (HDR.out _) ?_
      repeat go_big_quiet_step (first
        | (go_at_call 69; with_reducible exact HTW0.out _)
        | (go_at_call 26; with_reducible exact HLY0.out _)
        | (go_at_call 26; with_reducible exact HLN.out _))
      refine wpQuiet_nil ?_
      rintro w' ⟨r', rfl⟩
      go_wp2_with (fail)
      go_meet
      exact ⟨rfl, _, rfl⟩
    | true =>
      by_cases hlt : ly < ln
      · have HL : Hid (decide (ly < ln) = true) := decide_eq_true hlt
        refine wp_region_cls (fun w' => ∃ r, w' = ext r) (by kernel_rfl) (by kernel_rfl) (HDR.out _) ?_
        repeat go_big_quiet_step (first
          | (go_at_call 69; with_reducible exact HTW0.out _)
          | (go_at_call 26; with_reducible exact HLY0.out _)
          | (go_at_call 26; with_reducible exact HLN.out _))
        refine wpQuiet_nil ?_
        rintro w' ⟨r', rfl⟩
        go_wp2_with (fail)
        go_meet
        exact ⟨by rw [HL.out]; rfl, _, rfl⟩
      · have HL : Hid (decide (ly < ln) = false) := decide_eq_false hlt
        refine wp_region_cls (fun w' => ∃ r, w' = ext r) (by kernel_rfl) (by kernel_rfl) (HDR.out _) ?_
        repeat go_big_quiet_step (first
          | (go_at_call 69; with_reducible exact HTW0.out _)
          | (go_at_call 26; with_reducible exact HLY0.out _)
          | (go_at_call 26; with_reducible exact HLN.out _))
        refine wpQuiet_nil ?_
        rintro w' ⟨r', rfl⟩
        go_wp2_with (fail)
        go_meet
        exact ⟨by rw [HL.out]; rfl, _, rfl⟩
  case rest =>
  obtain ⟨rfl, r27, rfl⟩ := hcut
  go_upto_if 122 with fail
  go_cut [8] from 10 (fun s we => s = .string (quoteT (ty_ && decide (ly < ln)) Jy) ∧ ∃ r, we = ext r)
  case first =>
    cases hb : (ty_ && decide (ly < ln)) with
    | false =>
      go_wp2_with (fail)
      go_meet
      exact ⟨by rw [hb]; rfl, _, rfl⟩
    | true =>
      go_wp2_with (fail)
      refine (HIN0.out _).mono ?_
      rintro e v1 ⟨rfl, r1, rfl⟩
      go_wp2_with (fail)
      go_meet
      exact ⟨by rw [hb]; rfl, _, rfl⟩
  case rest =>
  obtain ⟨rfl, r28, rfl⟩ := hcut
  go_upto_region 29 with fail
  go_cut [146] from 10 (fun s wd => s = .bool (tz_ && decide (lz ≤ ln)) ∧ ∃ r, wd = ext r)
  case first =>
    cases tz_ with
    | false =>
      refine wp_region_cls (fun w' => ∃ r, w' = ext r) (by kernel_rfl) (by kernel_rfl) (HDR.out _) ?_
      repeat go_big_quiet_step (first
        | (go_at_call 69; with_reducible exact HTW1.out _)
        | (go_at_call 26; with_reducible exact HLY1.out _)
        | (go_at_call 26; with_reducible exact HLN.out _))
      refine wpQuiet_nil ?_
      rintro w' ⟨r', rfl⟩
      go_wp2_with (fail)
      go_meet
      exact ⟨rfl, _, rfl⟩
    | true =>
      by_cases hlt : lz ≤ ln
      · have HL : Hid (decide (lz ≤ ln) = true) := decide_eq_true hlt
        refine wp_region_cls (fun w' => ∃ r, w' = ext r) (by kernel_rfl) (by kernel_rfl) (HDR.out _) ?_
        repeat go_big_quiet_step (first
          | (go_at_call 69; with_reducible exact HTW1.out _)
          | (go_at_call 26; with_reducible exact HLY1.out _)
          | (go_at_call 26; with_reducible exact HLN.out _))
        refine wpQuiet_nil ?_
        rintro w' ⟨r', rfl⟩
        go_wp2_with (fail)
        go_meet
        exact ⟨by rw [HL.out]; rfl, _, rfl⟩
      · have HL : Hid (decide (lz ≤ ln) = false) := decide_eq_false hlt
        refine wp_region_cls (fun w' => ∃ r, w' = ext r) (by kernel_rfl) (by kernel_rfl) (HDR.out _) ?_
        repeat go_big_quiet_step (first
          | (go_at_call 69; with_reducible exact HTW1.out _)
          | (go_at_call 26; with_reducible exact HLY1.out _)
          | (go_at_call 26; with_reducible exact HLN.out _))
        refine wpQuiet_nil ?_
        rintro w' ⟨r', rfl⟩
        go_wp2_with (fail)
        go_meet
        exact ⟨by rw [HL.out]; rfl, _, rfl⟩
  case rest =>
  obtain ⟨rfl, r29, rfl⟩ := hcut
  go_upto_if 146 with fail
  go_cut [9] from 10 (fun s we => s = .string (quoteT (tz_ && decide (lz ≤ ln)) Jz) ∧ ∃ r, we = ext r)
  case first =>
    cases hb : (tz_ && decide (lz ≤ ln)) with
    | false =>
      go_wp2_with (fail)
      go_meet
      exact ⟨by rw [hb]; rfl, _, rfl⟩
    | true =>
      go_wp2_with (fail)
      refine (HIN1.out _).mono ?_
      rintro e v1 ⟨rfl, r1, rfl⟩
      go_wp2_with (fail)
      go_meet
      exact ⟨by rw [hb]; rfl, _, rfl⟩
  case rest =>
  obtain ⟨rfl, r30, rfl⟩ := hcut
  have hq0 := HSZ0.out (ty_ && decide (ly < ln))
  have hq1 := HSZ1.out (tz_ && decide (lz ≤ ln))
  generalize quoteT (ty_ && decide (ly < ln)) Jy = J0 at *
  generalize quoteT (tz_ && decide (lz ≤ ln)) Jz = J1 at *
  have hs1 : ¬ 9223372036854775807 < J0.size + 1 := by omega
  have hs2 : ¬ 9223372036854775807 < J0.size + 1 + name.size := by have := HN2.out; omega
  have hs3 : ¬ 9223372036854775807 < J0.size + 1 + name.size + 1 := by have := HN2.out; omega
  have hs4 : ¬ 9223372036854775807 < J0.size + 1 + name.size + 1 + J1.size := by have := HN2.out; omega
  go_wp2_with (fail)
  go_ret
  exact ⟨by rw [HR.out]; rfl, HBX.out _⟩
theorem form_name {x : Ex} {d : Int} (hf : formB x d = true) : x.name.size ≤ 12 := by
  rcases form_ways hf with ⟨_, _, h, _⟩ | ⟨_, h, _⟩ | ⟨_, ⟨_, h | h⟩ | ⟨_, h⟩, _⟩ | ⟨_, h, _⟩ | ⟨_, _, h, _⟩
  · rw [h]; decide
  · exact isName_size h
  · rw [h]; decide
  · rw [h]; decide
  · exact Nat.le_trans (levelT_size h) (by decide)
  · exact isName_size h
  · rw [h]; decide
theorem tight_two {y : Ex} {d : Int} (hf : formB y d = true) (t : Int) (ht : 0 < t) : textP y t = quoteT (twoB y && decide (levelT y.name < t)) (textP y 0) := by
  rw [textP_tight hf t ht]
  congr 1
  rw [Bool.eq_iff_iff]
  unfold twoB
  simp only [decide_eq_true_eq, Bool.and_eq_true, beq_iff_eq]
  constructor
  · rintro ⟨h1, h2, h3⟩; exact ⟨⟨h1, by omega⟩, h3⟩
  · rintro ⟨⟨h1, h2⟩, h3⟩; exact ⟨h1, by omega, h3⟩
theorem tight_six {y : Ex} {d : Int} (hf : formB y d = true) : textP y 6 = quoteT (twoB y) (textP y 0) := by
  rw [tight_two hf 6 (by decide)]
  have := (levelT_le y.name).2
  have h6 : decide (levelT y.name < 6) = true := by simp; omega
  rw [h6, Bool.and_true]
theorem okTxt12 {s : Txt} (h : s.size ≤ 12) : okTxt s := by unfold okTxt; omega
theorem rtext_step {x : Ex} {d : Int} (hf : formB x d = true) {W : World} (hpw : Pow W) (hsz : ∀ y ∈ x.kids, (textP y 0).size ≤ 413867158356) (hfk : ∀ y ∈ x.kids, ∃ d, formB y d = true) (hk : ∀ y ∈ x.kids, RTextC W y) (v : Value) (hx : ExIs W x v) :
    Calls Tryz.prog 28 #[v] W fun e w' => e = .returned (.string (textP x 0)) ∧ Below W.heap.size W w' := by
  have hw := form_ways hf
  obtain ⟨kind, at_, num, ty, name, l, a⟩ := x
  obtain ⟨vl, va, rfl, hl, ha⟩ := hx
  obtain ⟨pl, cl, rfl, hl3⟩ := hl
  obtain ⟨pa, ca, rfl, ha3⟩ := ha
  have hl : Lbl W l (.slice pl l.length cl) := ⟨pl, cl, rfl, hl3⟩
  have ha : Exs W a (.slice pa a.length ca) := ⟨pa, ca, rfl, ha3⟩
  simp only [Ex.kind, Ex.kids, Ex.name, Ex.lab, Ex.num, Ex.ty] at hw hsz hfk hk ⊢
  rcases hw with ⟨rfl, h1, rfl, h2, ⟨rfl, h3, h4⟩ | ⟨rfl, rfl | rfl⟩⟩ | ⟨rfl, h1, h2, h3, h4, h5⟩ | ⟨rfl, ⟨h1, h5⟩ | ⟨h1, h5⟩, h2, h3, h4⟩ | ⟨rfl, h1, h2, h3, h4, h5⟩ | ⟨rfl, h1, h2, h3, h4, h5⟩
  · exact rtext_num at_ num _ l a pl cl pa ca W h3 h4 hpw
  · exact rtext_false at_ _ l a pl cl pa ca W
  · exact rtext_true at_ _ l a pl cl pa ca W
  · exact rtext_var at_ num ty _ l a pl cl pa ca W
  · obtain ⟨y, rfl⟩ := one_of h1
    have hn : name.size ≤ 12 := by rcases h5 with rfl | rfl <;> decide
    obtain ⟨d', hd'⟩ := hfk y (by simp)
    have h6 := tight_six hd'
    cases htw : twoB y with
    | true => rw [htw] at h6; exact rtext_onein at_ num ty name l pl cl pa ca W y htw ha hn (hsz y (by simp)) h6 (hk y (by simp))
    | false => rw [htw] at h6; exact rtext_one at_ num ty name l pl cl pa ca W y htw ha hn (hsz y (by simp)) h6 (hk y (by simp))
  · obtain ⟨y, z, rfl⟩ := two_of h1
    have h2s := levelT_size h5
    obtain ⟨d1, hd1⟩ := hfk y (by simp)
    obtain ⟨d2, hd2⟩ := hfk z (by simp)
    refine rtext_two at_ num ty name l pl cl pa ca W y z (okTxt12 (by omega)) (okTxt12 (form_name hd1)) (okTxt12 (form_name hd2)) h2s ha (hsz y (by simp)) (hsz z (by simp)) h5 (tight_two hd1 _ h5) ?_ (hk y (by simp)) (hk z (by simp))
    rw [tight_two hd2 _ (by omega)]
    congr 2
    rw [Bool.eq_iff_iff]
    simp only [decide_eq_true_eq]
    omega
  · exact rtext_call at_ num ty name l a pl cl pa ca W ha h2 (isName_size h1) hsz hk
  · obtain ⟨y, rfl⟩ := one_of h1
    have hlg : longL l = false := by
      rw [fits_form] at h3
      unfold formLR at h3
      simp only [Bool.and_eq_true, Bool.not_eq_true'] at h3
      exact h3.1
    exact rtext_rel at_ num ty name l pl cl pa ca W y hl hlg ha (hsz y (by simp)) (hk y (by simp))
theorem rtext_calls : ∀ (n : Nat), n ≤ 12 → ∀ (x : Ex), Fm n x → ∀ (w : World), Pow w → RTextC w x := by
  intro n
  induction n with
  | zero =>
    intro hn x hf w hp W v hb hx
    exact rtext_step hf.form (hp.below hb) (fun y hy => by rw [hf.none] at hy; cases hy) (fun y hy => by rw [hf.none] at hy; cases hy) (fun y hy => by rw [hf.none] at hy; cases hy) v hx
  | succ n ih =>
    intro hn x hf w hp W v hb hx
    exact rtext_step hf.form (hp.below hb) (fun y hy => Nat.le_trans (text_size n y 0 (hf.kids y hy)) (lim_le (by omega))) (fun y hy => ⟨_, (hf.kids y hy).form⟩) (fun y hy => ih (by omega) y (hf.kids y hy) W (hp.below hb)) v hx
end Go.Proofs.YtmepcmnpmhhiiaaGreatDoor
namespace Go.Proofs.YtmepcmnpmhhiiaaGreatDoor
open Go.RowKit Go.WideShapes Go.ChangeShapes Go.ChangeAt
set_option linter.unusedVariables false
set_option linter.unusedSimpArgs false

/-- As Rd, so deep as the data is read. -/
def Rdn {α : Type} (N : Nat) (P : Program) (t : TypeId) (E : Enc α) (G : α → Prop) (m : α → Nat) : Prop :=
  ∀ (H : Type) (enc : TypeId × Value → H) (w : World) (fuel : Nat) (cs : List Value) (x : DataW H × List MemPlace), fuel < N → DataW.trod enc P w 0 (fun _ => true) true fuel t cs = some x → ∃ a : α, E w a cs ∧ G a ∧ m a ≤ Rows.uptoBulk x.1
theorem Rdn.slice {P : Program} {α : Type} {N : Nat} {t e : TypeId} {k : Nat} {E : Enc α} {G : α → Prop} {m : α → Nat} (ht : P.underlying t = some (.slice e)) (hk : 0 < k) (hc : P.cellsOf e = k) (hE : Rdn N P e E G m) :
    Rdn (N + 1) P t (Sl E k) (okList G) (szList m) := by
  intro H enc w fuel cs x hN h
  rcases DataW.trod_slice ht h with ⟨rfl, rfl⟩ | ⟨a, len, cap, elems, rest, n, rfl, rfl, rfl, hb, hl, hm, hlen, hel, hsp, hns⟩
  · exact ⟨[], ⟨_, rfl, none, 0, rfl, by simp, by unfold maxLen; omega, Or.inl rfl⟩, fun x hx => by simp at hx, by simp [szList, Rows.uptoBulk]⟩
  · rw [hc] at hel
    have each : ∀ i (hi : i < elems.length), ∃ a', (∃ vs, E w a' vs ∧ vs.length = k ∧ (∀ j, j < k → w.cell? ((a.add (i * k)).add j) = vs[j]?) ∧ G a') ∧ m a' ≤ Rows.uptoBulk elems[i].1 := by
      intro i hi
      have h1 := hel i (by omega)
      rw [List.getElem?_eq_getElem hi, Option.bind_eq_some_iff] at h1
      obtain ⟨vs, g1, g2⟩ := h1
      obtain ⟨_, g3, g4⟩ := World.cells?_some g1
      obtain ⟨a', e1, e2, e3⟩ := hE H enc w n vs _ (by omega) g2
      exact ⟨a', ⟨vs, e1, g3, g4, e2⟩, e3⟩
    obtain ⟨l, l1, l2, l3⟩ := choose_list (n := fun y : DataW H × List MemPlace => Rows.uptoBulk y.1) elems _ each
    refine ⟨l, ⟨_, rfl, some a, cap, by rw [l1, hlen], by omega, hm, ?_⟩, ?_, ?_⟩
    · by_cases h0 : l = []
      · exact Or.inl h0
      · right
        have hpos : 0 < l.length := List.length_pos_iff.2 h0
        obtain ⟨b, o, spot⟩ := a
        obtain ⟨vs, e1, e2, e3, _⟩ := l2 0 hpos
        have hc0 := e3 0 hk
        have hspot : spot = none := by
          have : w.cell? ⟨b, o, spot⟩ = some (vs[0]'(by omega)) := by
            rw [← List.getElem?_eq_getElem (by omega), ← hc0]
            simp [Addr.add]
          simpa using World.cell?_spot this
        subst hspot
        refine ⟨b, o, rfl, fun i hi => ?_⟩
        obtain ⟨vs, e1, e2, e3, _⟩ := l2 i hi
        refine ⟨vs, e1, e2, fun j x hx => ?_⟩
        have hj : j < vs.length := (List.getElem?_eq_some_iff.1 hx).1
        have := e3 j (by omega)
        rw [hx, add_plain, add_plain] at this
        exact this
    · intro x hx
      obtain ⟨i, hi, rfl⟩ := List.getElem_of_mem hx
      obtain ⟨_, _, _, _, g⟩ := l2 i hi
      exact g
    · simp only [szList, Rows.uptoBulk, bulkAll_sum, List.map_map]
      have : (elems.map fun y : DataW H × List MemPlace => Rows.uptoBulk y.1) = elems.map (Rows.uptoBulk ∘ fun x => x.1) := rfl
      rw [this] at l3
      omega
theorem nodesL_sum (l : List Ex) : nodesL l = (l.map nodesE).sum := by
  induction l with
  | nil => simp [nodesL]
  | cons x l ih => simp [nodesL, ih]
/-- An expression's numbers are numbers, its texts texts. -/
inductive OkEx : Ex → Prop
  | mk (kind at_ n ty : Int) (name : Txt) (l : Lab) (a : List Ex) (h0 : okNum kind) (h1 : okNum at_) (h2 : okNum n) (h3 : okNum ty) (h4 : okTxt name) (hr : ∀ y ∈ a, OkEx y) : OkEx (.mk kind at_ n ty name l a)
set_option maxRecDepth 100000 in
theorem rdEx : ∀ N : Nat, Rdn N Tryz.prog 26 exE OkEx nodesE := by
  intro N
  induction N using Nat.strongRecOn with
  | ind N ih =>
    intro H enc w fuel cs x hN h
    obtain ⟨xs, n, rfl, rfl, h1, h2, h3⟩ := DataW.trod_struct Tryz.underlying26 h
    rw [show Tryz.prog.cellsOf 26 = 7 by kernel_rfl] at h1
    have h2' : xs.length = 7 := h2
    match cs, h1 with
    | [c0, c1, c2, c3, c4, c5, c6], _ =>
      match xs, h2' with
      | [y0, y1, y2, y3, y4, y5, y6], _ =>
        have hci : Tryz.prog.cellsOf 3 = 1 := by kernel_rfl
        have hcs : Tryz.prog.cellsOf 9 = 1 := by kernel_rfl
        have hcl : Tryz.prog.cellsOf 23 = 1 := by kernel_rfl
        have hca : Tryz.prog.cellsOf 24 = 1 := by kernel_rfl
        have g0 := h3 0 _ rfl
        have g1 := h3 1 _ rfl
        have g2 := h3 2 _ rfl
        have g3 := h3 3 _ rfl
        have g4 := h3 4 _ rfl
        have g5 := h3 5 _ rfl
        have g6 := h3 6 _ rfl
        simp only [hci, hcs, hcl, hca, List.drop_zero, List.drop_succ_cons, List.take_succ_cons, List.take_zero, List.getElem?_cons_zero, List.getElem?_cons_succ] at g0 g1 g2 g3 g4 g5 g6
        obtain ⟨k0, e0, m0, _⟩ := Rd.num Tryz.underlying3 H enc w n _ _ g0
        obtain ⟨k1, e1, m1, _⟩ := Rd.num Tryz.underlying3 H enc w n _ _ g1
        obtain ⟨k2, e2, m2, _⟩ := Rd.num Tryz.underlying3 H enc w n _ _ g2
        obtain ⟨k3, e3, m3, _⟩ := Rd.num Tryz.underlying3 H enc w n _ _ g3
        obtain ⟨k4, e4, m4, _⟩ := Rd.txt Tryz.underlying9 H enc w n _ _ g4
        obtain ⟨k5, ⟨v5, e5, s5⟩, m5, _⟩ := rdLabel H enc w n _ _ g5
        obtain ⟨k6, ⟨v6, e6, s6⟩, m6, b6⟩ := Rdn.slice (k := 7) Tryz.underlying24 (by decide) (by kernel_rfl) (ih n (by omega)) H enc w n _ _ (by omega) g6
        have e0' : [c0] = [.int .i64 k0] := e0
        have e1' : [c1] = [.int .i64 k1] := e1
        have e2' : [c2] = [.int .i64 k2] := e2
        have e3' : [c3] = [.int .i64 k3] := e3
        have e4' : [c4] = [.string k4] := e4
        have e5' : [c5] = [v5] := e5
        have e6' : [c6] = [v6] := e6
        simp only [List.cons.injEq, and_true] at e0' e1' e2' e3' e4' e5' e6'
        subst e0' e1' e2' e3' e4' e5' e6'
        refine ⟨.mk k0 k1 k2 k3 k4 k5 k6, exE_mk s5 s6, .mk _ _ _ _ _ _ _ m0 m1 m2 m3 m4 m6, ?_⟩
        have hs := nodesL_sum k6
        unfold szList at b6
        simp only [nodesE, Rows.uptoBulk, List.map_cons, List.map_nil, Rows.uptoBulkAll]
        omega
theorem ex_arg {H : Type} {enc : TypeId × Value → H} {w : World} {v : Value} {d : DataW H} {ps : List MemPlace} (hv : ∃ cs, v = .agg cs ∧ cs.size = 7) (h : DataW.Trod enc Tryz.prog w 0 (fun _ => true) true 26 v d ps) : ∃ x : Ex, ExIs w x v ∧ OkEx x ∧ nodesE x ≤ Rows.uptoBulk d := by
  obtain ⟨fuel, hf⟩ := h
  obtain ⟨x, h1, h2, h3⟩ := rdEx (fuel + 1) H enc w fuel _ _ (Nat.lt_succ_self _) hf
  obtain ⟨cs, rfl, _⟩ := hv
  obtain ⟨vl, va, e, hl, ha⟩ := exE_out h1
  refine ⟨x, ⟨vl, va, ?_, hl, ha⟩, h2, h3⟩
  congr 1
  apply Array.ext'
  simpa [Value.cells] using e
end Go.Proofs.YtmepcmnpmhhiiaaGreatDoor
namespace Go.Proofs.YtmepcmnpmhhiiaaGreatDoor
open Go.RowKit Go.Maps
set_option linter.unusedVariables false
set_option linter.unusedSimpArgs false

theorem frm_step {x : Ex} (hx : OkEx x) {w : World} {v : Value} (hv : ExIs w x v) (hm : MaxL w)
    (ih : ∀ (k : Nat) (h : k < x.kids.length) (W : World) (v : Value), MaxL W → ExIs W x.kids[k] v → Calls Tryz.prog 63 #[v] W fun e w' => e = .returned (.bool (frmE x.kids[k])) ∧ Below W.heap.size W w') :
    Calls Tryz.prog 63 #[v] w fun e w' => e = .returned (.bool (frmE x)) ∧ Below w.heap.size w w' := by
  obtain ⟨kind, at_, num, ty, name, l, a⟩ := x
  obtain ⟨vl, va, rfl, hl, ha⟩ := hv
  have hnm : okTxt name := by cases hx; assumption
  have hty : (Lit.int .i64 ty).wf = true := by
    have : okNum ty := by cases hx; assumption
    unfold okNum at this
    show (decide (IntKind.i64.min ≤ ty) && decide (ty ≤ IntKind.i64.max)) = true
    have e1 : IntKind.i64.min = -9223372036854775808 := rfl
    have e2 : IntKind.i64.max = 9223372036854775807 := rfl
    rw [e1, e2]
    simp [this]
  rw [frmE]
  unfold frmK
  by_cases h1 : kind = 1
  · subst h1
    exact frm_1 at_ num ty name l a vl va w hl ha hm hnm hty ih
  rw [if_neg h1]
  by_cases h2 : kind = 2
  · subst h2
    exact frm_2 at_ num ty name l a vl va w hl ha hm hnm hty ih
  rw [if_neg h2]
  by_cases h3 : kind = 3
  · subst h3
    exact frm_3 at_ num ty name l a vl va w hl ha hm hnm hty ih
  rw [if_neg h3]
  by_cases h4 : kind = 4
  · subst h4
    exact frm_4 at_ num ty name l a vl va w hl ha hm hnm hty ih
  rw [if_neg h4]
  by_cases h5 : kind = 5
  · subst h5
    exact frm_5 at_ num ty name l a vl va w hl ha hm hnm hty ih
  rw [if_neg h5]
  exact frm_0 at_ num ty name l a vl va w kind ⟨h1, h2, h3, h4, h5⟩ hl ha hm hnm hty ih
theorem OkEx.kids {x : Ex} (h : OkEx x) : ∀ y ∈ x.kids, OkEx y := by
  cases h
  assumption
theorem frm_deep : ∀ (n : Nat) (x : Ex) (v : Value) (w : World), deepE x ≤ n → OkEx x → MaxL w → ExIs w x v → Calls Tryz.prog 63 #[v] w fun e w' => e = .returned (.bool (frmE x)) ∧ Below w.heap.size w w' := by
  intro n
  induction n with
  | zero => intro x v w h; rw [deepE_eq] at h; omega
  | succ n ih =>
    intro x v w h hx hm hv
    refine frm_step hx hv hm fun k hk W v hmW hvW => ih _ v W ?_ (hx.kids _ (List.getElem_mem hk)) hmW hvW
    have := deepL_at hk
    rw [deepE_eq] at h
    omega
theorem frm_calls (x : Ex) (v : Value) (w : World) (hx : OkEx x) (hm : MaxL w) (hv : ExIs w x v) : Calls Tryz.prog 63 #[v] w fun e w' => e = .returned (.bool (frmE x)) ∧ Below w.heap.size w w' := frm_deep _ x v w (Nat.le_refl _) hx hm hv
set_option maxHeartbeats 1000000 in
set_option maxRecDepth 100000 in
theorem isFormed_calls (x : Ex) (v : Value) (w : World) (hx : OkEx x) (hn : nodesE x ≤ 1048576) (hm : MaxL w) (hv : ExIs w x v) : Calls Tryz.prog 24 #[v] w fun e w' => e = .returned (.bool (formedS x)) ∧ Below w.heap.size w w' := by
  have HR : Hid (formedS x = (decide (deepE x ≤ 12) && frmE x)) := formedS_eq x
  have hv0 := hv
  obtain ⟨vl, va, rfl, hl, ha⟩ := hv
  obtain ⟨pl, cl, rfl, _⟩ := hl
  obtain ⟨pa, ca, rfl, _⟩ := ha
  obtain ⟨W1, eW⟩ : ∃ W1, w.alloc (.cells #[.int .i64 x.kind, .int .i64 x.at_, .int .i64 x.num, .int .i64 x.ty, .string x.name, .slice pl x.lab.length cl, .slice pa x.kids.length ca] 26) = W1 := ⟨_, rfl⟩
  have hb1 : Below w.heap.size w W1 := by rw [← eW]; exact (Below.refl _ _).alloc (Nat.le_refl _) _
  have hB : Blk W1 w.heap.size (exC x (.slice pl x.lab.length cl) (.slice pa x.kids.length ca)) 26 := by rw [← eW]; exact Blk.new _ _ _
  obtain ⟨q0, q1, q2, q3, q4, q5, q6⟩ := hB.cells7
  have HQ : Hid (∀ W, Below W1.heap.size W1 W → Blk W w.heap.size (exC x (.slice pl x.lab.length cl) (.slice pa x.kids.length ca)) 26) := fun W hb => hB.below hb
  have HD := Lib.hid (refDeep_calls x _ W1 (hv0.stays (keeps_of_below hb1)) hn)
  have HF : Hid (∀ W, Below W1.heap.size W1 W → Calls Tryz.prog 63 #[.agg #[.int .i64 x.kind, .int .i64 x.at_, .int .i64 x.num, .int .i64 x.ty, .string x.name, .slice pl x.lab.length cl, .slice pa x.kids.length ca]] W fun e w' => e = .returned (.bool (frmE x)) ∧ Below W.heap.size W w') := fun W hb => frm_calls x _ W hx ((hm.below hb1).below hb) ((hv0.stays (keeps_of_below hb1)).stays (keeps_of_below hb))
  have HBW := Lib.hid hb1
  have hdn : deepE x ≤ 1048576 := Nat.le_trans (deep_le_nodes x) hn
  generalize frmE x = fx at *
  by_cases hd : deepE x ≤ 12
  · have HDD : Hid (decide (deepE x ≤ 12) = true) := decide_eq_true hd
    have hdi : (deepE x : Int) ≤ 12 := by omega
    clear hb1 hB hv0 hd hx hn hm
    generalize deepE x = dx at *
    go_enter Tryz.func24, Tryz.ntmps24
    go_wp2_with (fail)
    refine HD.out.mono ?_
    rintro e w2 ⟨rfl, hb2⟩
    have HF2 := Lib.hid (HF.out w2 hb2)
    have HB2 := Lib.hid (HBW.out.trans (hb2.mono HBW.out.size))
    clear q0 q1 q2 q3 q4 q5 q6
    obtain ⟨q0, q1, q2, q3, q4, q5, q6⟩ := (HQ.out _ hb2).cells7
    clear hb2
    go_wp2_with (fail)
    refine HF2.out.mono ?_
    rintro e w3 ⟨rfl, hb3⟩
    have HB3 := Lib.hid (HB2.out.trans (hb3.mono HB2.out.size))
    clear hb3
    go_wp2_with (fail)
    go_ret
    exact ⟨by rw [HR.out, HDD.out]; rfl, HB3.out⟩
  · have HDD : Hid (decide (deepE x ≤ 12) = false) := decide_eq_false hd
    have hdi : ¬ (deepE x : Int) ≤ 12 := by omega
    clear hb1 hB hv0 hd hx hn hm
    generalize deepE x = dx at *
    go_enter Tryz.func24, Tryz.ntmps24
    go_wp2_with (fail)
    refine HD.out.mono ?_
    rintro e w2 ⟨rfl, hb2⟩
    have HB2 := Lib.hid (HBW.out.trans (hb2.mono HBW.out.size))
    clear hb2
    go_wp2_with (fail)
    go_ret
    exact ⟨by rw [HR.out, HDD.out]; rfl, HB2.out⟩
end Go.Proofs.YtmepcmnpmhhiiaaGreatDoor
namespace Go.Proofs.YtmepcmnpmhhiiaaGreatDoor
open Go.RowKit Go.Maps
set_option linter.unusedVariables false
set_option linter.unusedSimpArgs false

set_option maxHeartbeats 1000000 in
set_option maxRecDepth 100000 in
theorem refSamePol_calls (p q : Pol) (va vb : Value) (w : World) (hp : PolIs w p va) (hq : PolIs w q vb) : Calls Tryz.prog 51 #[va, vb] w fun e w' => e = .returned (.bool (samePol p q)) ∧ Below w.heap.size w w' := by
  obtain ⟨vr, rfl, hvr⟩ := hp
  obtain ⟨us, rfl, hus⟩ := hq
  obtain ⟨pr, cr, rfl, h1⟩ := hvr
  obtain ⟨ps, cs, rfl, h2⟩ := hus
  have hvr : Strs w p.2 (.slice pr p.2.length cr) := ⟨pr, cr, rfl, h1⟩
  have hus : Strs w q.2 (.slice ps q.2.length cs) := ⟨ps, cs, rfl, h2⟩
  obtain ⟨W2, eW⟩ : ∃ W2, (w.alloc (.cells #[.string p.1, .slice pr p.2.length cr] 77)).alloc (.cells #[.string q.1, .slice ps q.2.length cs] 77) = W2 := ⟨_, rfl⟩
  obtain ⟨z2, hb2, m0, m1⟩ := boxes2 eW
  have d0 : W2.cell? ⟨w.heap.size, 0, none⟩ = some (.string p.1) := m0 0
  have d1 : W2.cell? ⟨w.heap.size, 1, none⟩ = some (.slice pr p.2.length cr) := m0 1
  have f0 : W2.cell? ⟨w.heap.size + 1, 0, none⟩ = some (.string q.1) := m1 0
  have f1 : W2.cell? ⟨w.heap.size + 1, 1, none⟩ = some (.slice ps q.2.length cs) := m1 1
  have HE := Lib.hid (equalS_calls p.2 q.2 _ _ W2 (hvr.stays (keeps_of_below hb2)) (hus.stays (keeps_of_below hb2)))
  have HB2 := Lib.hid hb2
  have HR : Hid (samePol p q = ((p.1 == q.1) && (p.2 == q.2))) := rfl
  generalize (p.2 == q.2) = b2 at *
  clear hb2 m0 m1 z2 hvr hus h1 h2
  by_cases ho : p.1 = q.1
  · have HO : Hid ((p.1 == q.1) = true) := by simp [Hid, ho]
    have hl : p.1.toList = q.1.toList := by rw [ho]
    clear ho
    go_enter Tryz.func51, Tryz.ntmps51
    go_wp2_with (fail)
    refine HE.out.mono ?_
    rintro e w3 ⟨rfl, n, rfl⟩
    go_wp2_with (fail)
    go_ret
    exact ⟨by rw [HR.out, HO.out]; rfl, below_drewN HB2.out _⟩
  · have HO : Hid ((p.1 == q.1) = false) := by simp [Hid, ho]
    have hl : ¬ p.1.toList = q.1.toList := fun e => ho (bytes_eq.1 (by simp [e]))
    clear ho
    go_enter Tryz.func51, Tryz.ntmps51
    go_wp2_with (fail)
    go_ret
    exact ⟨by rw [HR.out, HO.out]; rfl, HB2.out⟩
set_option maxRecDepth 100000 in
theorem refSameLab_calls (l m : Lab) (v u : Value) (w : World) (hv : Lbl w l v) (hu : Lbl w m u) : Calls Tryz.prog 15 #[v, u] w fun e w' => e = .returned (.bool (sameLab l m)) ∧ Below w.heap.size w w' := by
  have eg : ∀ args w, (callFunc 51 args).run Tryz.prog w = .ok (.enter 51 args) w := enters_at Tryz.func51 (by kernel_rfl) rfl
  have HE := Lib.hid (equalPol_calls l m v u 51 #[] w hv hu eg (fun k h1 h2 W va vb hb ha hb' => by simpa using refSamePol_calls l[k] m[k] va vb W ha hb'))
  have HR : Hid (sameLab l m = eqF samePol l m) := rfl
  generalize eqF samePol l m = b at *
  obtain ⟨p, c, rfl, _⟩ := hv
  obtain ⟨p', c', rfl, _⟩ := hu
  go_enter Tryz.func15, Tryz.ntmps15
  go_wp2_with (fail)
  refine HE.out.mono ?_
  rintro e w3 ⟨rfl, hb3⟩
  go_wp2_with (fail)
  go_ret
  exact ⟨by rw [HR.out]; rfl, hb3⟩
set_option maxHeartbeats 2000000 in
set_option maxRecDepth 100000 in
theorem refSame_step (x y : Ex) (va vb : Value) (w : World) (hx : ExIs w x va) (hy : ExIs w y vb)
    (ih : ∀ (k : Nat) (h1 : k < x.kids.length) (h2 : k < y.kids.length) (W : World) (v u : Value), ExIs W x.kids[k] v → ExIs W y.kids[k] u → Calls Tryz.prog 23 #[v, u] W fun e w' => e = .returned (.bool (sameE x.kids[k] y.kids[k])) ∧ Below W.heap.size W w') :
    Calls Tryz.prog 23 #[va, vb] w fun e w' => e = .returned (.bool (sameE x y)) ∧ Below w.heap.size w w' := by
  obtain ⟨vl, wa, rfl, hl, ha⟩ := hx
  obtain ⟨pl, cl, rfl, h1⟩ := hl
  obtain ⟨b, o, c, p, rfl, hmax, hp, hkids⟩ := ha.at
  have hl : Lbl w x.lab (.slice pl x.lab.length cl) := ⟨pl, cl, rfl, h1⟩
  obtain ⟨vl, wa, rfl, hl', ha'⟩ := hy
  obtain ⟨pl', cl', rfl, h1'⟩ := hl'
  obtain ⟨b', o', c', p', rfl, hmax', hp', hkids'⟩ := ha'.at
  have hl' : Lbl w y.lab (.slice pl' y.lab.length cl') := ⟨pl', cl', rfl, h1'⟩
  clear h1 h1'
  obtain ⟨W2, eW⟩ : ∃ W2, (w.alloc (.cells #[.int .i64 x.kind, .int .i64 x.at_, .int .i64 x.num, .int .i64 x.ty, .string x.name, .slice pl x.lab.length cl, .slice p x.kids.length c] 26)).alloc (.cells #[.int .i64 y.kind, .int .i64 y.at_, .int .i64 y.num, .int .i64 y.ty, .string y.name, .slice pl' y.lab.length cl', .slice p' y.kids.length c'] 26) = W2 := ⟨_, rfl⟩
  obtain ⟨z2, hb2, m0, m1⟩ := boxes2 eW
  have hB : Blk W2 w.heap.size (exC x (.slice pl x.lab.length cl) (.slice p x.kids.length c)) 26 := by rw [← eW]; exact (Blk.new _ _ _).below ((Below.refl _ _).alloc (Nat.le_refl _) _)
  have hC : Blk W2 (w.heap.size + 1) (exC y (.slice pl' y.lab.length cl') (.slice p' y.kids.length c')) 26 := by rw [← eW]; exact Blk.new2 _ _ _ _ _
  have hk := keeps_of_below hb2
  have HBL : Hid (∀ W, Below W2.heap.size W2 W → Blk W w.heap.size (exC x (.slice pl x.lab.length cl) (.slice p x.kids.length c)) 26 ∧ Blk W (w.heap.size + 1) (exC y (.slice pl' y.lab.length cl') (.slice p' y.kids.length c')) 26) := fun W hb => ⟨hB.below hb, hC.below hb⟩
  have HKD : Hid (∀ W, Below W2.heap.size W2 W → ∀ (i : Nat) (hi : i < x.kids.length), ∃ pl cl pa ca, ExIs W x.kids[i] (.agg #[.int .i64 x.kids[i].kind, .int .i64 x.kids[i].at_, .int .i64 x.kids[i].num, .int .i64 x.kids[i].ty, .string x.kids[i].name, .slice pl x.kids[i].lab.length cl, .slice pa x.kids[i].kids.length ca]) ∧
      W.cell? ⟨b, o + i * 7, none⟩ = some (.int .i64 x.kids[i].kind) ∧ W.cell? ⟨b, o + i * 7 + 1, none⟩ = some (.int .i64 x.kids[i].at_) ∧ W.cell? ⟨b, o + i * 7 + 2, none⟩ = some (.int .i64 x.kids[i].num) ∧ W.cell? ⟨b, o + i * 7 + 3, none⟩ = some (.int .i64 x.kids[i].ty) ∧
      W.cell? ⟨b, o + i * 7 + 4, none⟩ = some (.string x.kids[i].name) ∧ W.cell? ⟨b, o + i * 7 + 5, none⟩ = some (.slice pl x.kids[i].lab.length cl) ∧ W.cell? ⟨b, o + i * 7 + 6, none⟩ = some (.slice pa x.kids[i].kids.length ca)) := fun W h i hi => by
    have hk := hk.trans (keeps_of_below h)
    obtain ⟨pl, cl, pa, ca, g1, g2, g3, g4, g5, g6, g7, g8, g9⟩ := hkids i hi
    exact ⟨pl, cl, pa, ca, ⟨_, _, rfl, g1.stays hk, g2.stays hk⟩, hk.2 _ _ _ g3, hk.2 _ _ _ g4, hk.2 _ _ _ g5, hk.2 _ _ _ g6, hk.2 _ _ _ g7, hk.2 _ _ _ g8, hk.2 _ _ _ g9⟩
  have HKE : Hid (∀ W, Below W2.heap.size W2 W → ∀ (i : Nat) (hi : i < y.kids.length), ∃ pl cl pa ca, ExIs W y.kids[i] (.agg #[.int .i64 y.kids[i].kind, .int .i64 y.kids[i].at_, .int .i64 y.kids[i].num, .int .i64 y.kids[i].ty, .string y.kids[i].name, .slice pl y.kids[i].lab.length cl, .slice pa y.kids[i].kids.length ca]) ∧
      W.cell? ⟨b', o' + i * 7, none⟩ = some (.int .i64 y.kids[i].kind) ∧ W.cell? ⟨b', o' + i * 7 + 1, none⟩ = some (.int .i64 y.kids[i].at_) ∧ W.cell? ⟨b', o' + i * 7 + 2, none⟩ = some (.int .i64 y.kids[i].num) ∧ W.cell? ⟨b', o' + i * 7 + 3, none⟩ = some (.int .i64 y.kids[i].ty) ∧
      W.cell? ⟨b', o' + i * 7 + 4, none⟩ = some (.string y.kids[i].name) ∧ W.cell? ⟨b', o' + i * 7 + 5, none⟩ = some (.slice pl y.kids[i].lab.length cl) ∧ W.cell? ⟨b', o' + i * 7 + 6, none⟩ = some (.slice pa y.kids[i].kids.length ca)) := fun W h i hi => by
    have hk := hk.trans (keeps_of_below h)
    obtain ⟨pl, cl, pa, ca, g1, g2, g3, g4, g5, g6, g7, g8, g9⟩ := hkids' i hi
    exact ⟨pl, cl, pa, ca, ⟨_, _, rfl, g1.stays hk, g2.stays hk⟩, hk.2 _ _ _ g3, hk.2 _ _ _ g4, hk.2 _ _ _ g5, hk.2 _ _ _ g6, hk.2 _ _ _ g7, hk.2 _ _ _ g8, hk.2 _ _ _ g9⟩
  have HLB : Hid (∀ W, Below w.heap.size w W → Calls Tryz.prog 15 #[.slice pl x.lab.length cl, .slice pl' y.lab.length cl'] W fun e w' => e = .returned (.bool (sameLab x.lab y.lab)) ∧ Below W.heap.size W w') := fun W hb => by
    have hk3 := keeps_of_below hb
    exact refSameLab_calls x.lab y.lab _ _ W (hl.stays hk3) (hl'.stays hk3)
  have HB2 := Lib.hid hb2
  have HP := Lib.hid hp
  have HP' := Lib.hid hp'
  have HIH := Lib.hid ih
  have HR : Hid (sameE x y = ((x.kind == y.kind) && (x.num == y.num) && (x.ty == y.ty) && (x.name == y.name) && sameLab x.lab y.lab && eqF sameE x.kids y.kids)) := by
    unfold Hid
    rw [sameE_eq, sameL_eqF]
  obtain ⟨q0, q1, q2, q3, q4, q5, q6⟩ := hB.cells7
  obtain ⟨r0, r1, r2, r3, r4, r5, r6⟩ := hC.cells7
  clear hB hC hk hb2 m0 m1 z2 ha ha' hl hl' hkids hkids' hp hp' ih
  generalize x.kids = l at *
  generalize y.kids = m at *
  by_cases hlen : l.length = m.length
  · have hle : (l.length : Int) = (m.length : Int) := by omega
    have hle2 : ((l.length : Int) != (m.length : Int)) = false := by simp [hle]
    have hle3 : ((l.length : Int) == (m.length : Int)) = true := by simp [hle]
    clear hle
    have HLEN := Lib.hid hlen
    clear hlen
    go_enter Tryz.func23, Tryz.ntmps23
    go_wp2_with (fail)
    clear q0 q1 q2 q3 q4 q5 q6 r0 r1 r2 r3 r4 r5 r6 eW
    go_loopw [5, 16] (fun _ i ws => ∃ (k : Nat) (wo : World), k ≤ l.length ∧ i = .int .i64 k ∧ wo = ws ∧ Hid (Below W2.heap.size W2 wo) ∧ Hid (∀ j (h1 : j < l.length) (h2 : j < m.length), j < k → sameE l[j] m[j] = true)) (fun _ i _ => l.length - (intOf i).toNat)
    case atStart => exact ⟨0, _, Nat.zero_le _, rfl, rfl, Below.refl _ _, fun j _ _ h => absurd h (by omega)⟩
    case round =>
      obtain ⟨k, wo, hk, rfl, rfl, HB, HA⟩ := hrel
      by_cases hlt : k < l.length
      · have hlt2 : k < m.length := by have := HLEN.out; omega
        have hki : (k : Int) < (l.length : Int) := by omega
        have hki2 : (k : Int) < (m.length : Int) := by omega
        have hk0 : (0 : Int) ≤ (k : Int) := by omega
        have hkm : (k : Int) + 1 ≤ 9223372036854775807 := by omega
        obtain rfl := HP.out (by omega)
        obtain rfl := HP'.out (by omega)
        have hbd : Below wo.heap.size wo wo.drew := (Below.refl _ _).drew
        obtain ⟨W3, e3⟩ : ∃ W3, wo.drew = W3 := ⟨_, rfl⟩
        rw [e3] at hbd
        have HB3 := Lib.hid (HB.out.trans (hbd.mono HB.out.size))
        obtain ⟨hB3, hC3⟩ := HBL.out W3 HB3.out
        obtain ⟨q0, q1, q2, q3, q4, q5, q6⟩ := hB3.cells7
        obtain ⟨r0, r1, r2, r3, r4, r5, r6⟩ := hC3.cells7
        obtain ⟨pl1, cl1, pa1, ca1, hy1, g0, g1, g2, g3, g4, g5, g6⟩ := HKD.out W3 HB3.out k hlt
        obtain ⟨pl2, cl2, pa2, ca2, hy2, f0, f1, f2, f3, f4, f5, f6⟩ := HKE.out W3 HB3.out k hlt2
        have HC := Lib.hid (HIH.out k hlt hlt2 W3 _ _ hy1 hy2)
        have HAT : Hid (sameE l[k] m[k] = false → eqF sameE l m = false) := fun h => eqF_at k hlt hlt2 h
        have HAN : Hid (sameE l[k] m[k] = true → ∀ j (h1 : j < l.length) (h2 : j < m.length), j < k + 1 → sameE l[j] m[j] = true) := fun h j h1 h2 h3 => by
          rcases Nat.lt_or_ge j k with h4 | h4
          · exact HA.out j h1 h2 h4
          · obtain rfl : j = k := by omega
            exact h
        have HLT := Lib.hid hlt
        generalize l[k] = z1 at *
        generalize m[k] = z2 at *
        have HBW := Lib.hid (HB2.out.trans (HB3.out.mono HB2.out.size))
        clear hlt hlt2 hk hbd hy1 hy2 hB3 hC3
        cases hs : sameE z1 z2 with
        | true =>
          have HN := Lib.hid (HAN.out hs)
          rw [hs] at HC
          clear hs HAT HAN
          go_wp2_with (fail)
          refine wp_region_calm_tail 10 (by kernel_rfl) (by kernel_rfl) ?_
          rw [e3]
          simp only [List.take_succ_cons, List.take_zero, List.drop_succ_cons, List.drop_zero]
          repeat go_big_quiet_step (fail)
          refine wpQuiet_nil ?_
          go_wp2_with (fail)
          refine HC.out.mono ?_
          rintro e w4 ⟨rfl, hb4⟩
          have HB4 := Lib.hid (HB3.out.trans (hb4.mono HB3.out.size))
          clear hb4
          go_wp2_with (fail)
          go_roundw
          case rel => exact ⟨k + 1, _, by have h1 := HLT.out; omega, by go_num, rfl, HB4.out, HN.out⟩
          case measure => have h1 := HLT.out; simp [intOf]; omega
        | false =>
          have HN := Lib.hid (HAT.out hs)
          rw [hs] at HC
          clear hs HAT HAN
          go_wp2_with (fail)
          refine wp_region_calm_tail 10 (by kernel_rfl) (by kernel_rfl) ?_
          rw [e3]
          simp only [List.take_succ_cons, List.take_zero, List.drop_succ_cons, List.drop_zero]
          repeat go_big_quiet_step (fail)
          refine wpQuiet_nil ?_
          go_wp2_with (fail)
          refine HC.out.mono ?_
          rintro e w4 ⟨rfl, hb4⟩
          have HB4 := Lib.hid (HBW.out.trans (hb4.mono HBW.out.size))
          clear hb4
          go_wp2_with (fail)
          go_ret
          exact ⟨by rw [HR.out, HN.out]; simp, HB4.out⟩
      · have hki : ¬ (k : Int) < (l.length : Int) := by omega
        have HN : Hid (eqF sameE l m = true) := eqF_all HLEN.out fun j h1 h2 => HA.out j h1 h2 (by omega)
        obtain ⟨hB3, hC3⟩ := HBL.out wo HB.out
        obtain ⟨q0, q1, q2, q3, q4, q5, q6⟩ := hB3.cells7
        obtain ⟨r0, r1, r2, r3, r4, r5, r6⟩ := hC3.cells7
        obtain ⟨u0, u1, u2, u3, u4, u5, u6⟩ := hB3.fz7
        obtain ⟨t0, t1, t2, t3, t4, t5, t6⟩ := (hC3.other (b' := w.heap.size) (by omega) 6 (.slice none 0 0)).fz7
        obtain ⟨W4, e4⟩ : ∃ W4, (wo.setCell ⟨w.heap.size, 6, none⟩ (.slice none 0 0)).setCell ⟨w.heap.size + 1, 6, none⟩ (.slice none 0 0) = W4 := ⟨_, rfl⟩
        have hB4 : Blk W4 w.heap.size (exC x (.slice pl x.lab.length cl) (.slice none 0 0)) 26 := by rw [← e4]; exact (hB3.set 6 (.slice none 0 0)).other (by omega) _ _
        have hC4 : Blk W4 (w.heap.size + 1) (exC y (.slice pl' y.lab.length cl') (.slice none 0 0)) 26 := by rw [← e4]; exact (hC3.other (by omega) _ _).set 6 (.slice none 0 0)
        have hb4 : Below w.heap.size w W4 := by rw [← e4]; exact ((HB2.out.trans (HB.out.mono HB2.out.size)).setCell (Nat.le_refl _) _).setCell (Nat.le_succ _) _
        have HB4 := Lib.hid hb4
        have HL4 := Lib.hid (HLB.out W4 hb4)
        obtain ⟨a0, a1, a2, a3, a4, a5, a6⟩ := hB4.cells7
        obtain ⟨v0, v1, v2, v3, v4, v5, v6⟩ := hC4.cells7
        clear hB3 hC3 hB4 hC4 hb4
        generalize sameLab x.lab y.lab = b1 at *
        by_cases c0 : x.kind = y.kind
        · have C0 : Hid ((x.kind == y.kind) = true) := by simp [Hid, c0]
          have d0 : (x.kind == y.kind) = true := C0
          clear c0
          by_cases c1 : x.num = y.num
          · have C1 : Hid ((x.num == y.num) = true) := by simp [Hid, c1]
            have d1 : (x.num == y.num) = true := C1
            clear c1
            by_cases c2 : x.ty = y.ty
            · have C2 : Hid ((x.ty == y.ty) = true) := by simp [Hid, c2]
              have d2 : (x.ty == y.ty) = true := C2
              clear c2
              by_cases c3 : x.name = y.name
              · have C3 : Hid ((x.name == y.name) = true) := by simp [Hid, c3]
                have hs : x.name.toList = y.name.toList := by rw [c3]
                clear c3
                go_wp2_with (fail)
                refine HL4.out.mono ?_
                rintro e w5 ⟨rfl, hb5⟩
                have HB5 := Lib.hid (HB4.out.trans (hb5.mono HB4.out.size))
                clear hb5
                go_wp2_with (fail)
                go_ret
                exact ⟨by rw [HR.out, C0.out, C1.out, C2.out, C3.out, HN.out]; simp, HB5.out⟩
              · have C3 : Hid ((x.name == y.name) = false) := by simp [Hid, c3]
                have hs : ¬ x.name.toList = y.name.toList := fun e => c3 (bytes_eq.1 (by simp [e]))
                clear c3
                go_wp2_with (fail)
                go_ret
                exact ⟨by rw [HR.out, C0.out, C1.out, C2.out, C3.out]; rfl, HB4.out⟩
            · have C2 : Hid ((x.ty == y.ty) = false) := by simp [Hid, c2]
              have d2 : (x.ty == y.ty) = false := C2
              go_wp2_with (fail)
              go_ret
              exact ⟨by rw [HR.out, C0.out, C1.out, C2.out]; rfl, HB4.out⟩
          · have C1 : Hid ((x.num == y.num) = false) := by simp [Hid, c1]
            have d1 : (x.num == y.num) = false := C1
            go_wp2_with (fail)
            go_ret
            exact ⟨by rw [HR.out, C0.out, C1.out]; rfl, HB4.out⟩
        · have C0 : Hid ((x.kind == y.kind) = false) := by simp [Hid, c0]
          have d0 : (x.kind == y.kind) = false := C0
          go_wp2_with (fail)
          go_ret
          exact ⟨by rw [HR.out, C0.out]; rfl, HB4.out⟩
  · have hle : ¬ (l.length : Int) = (m.length : Int) := by omega
    have hle2 : ((l.length : Int) != (m.length : Int)) = true := by simp [hle]
    have hle3 : ((l.length : Int) == (m.length : Int)) = false := by simp [hle]
    have HN : Hid (eqF sameE l m = false) := eqF_len hlen
    clear hlen
    go_enter Tryz.func23, Tryz.ntmps23
    go_wp2_with (fail)
    go_ret
    exact ⟨by rw [HR.out, HN.out]; simp, HB2.out⟩
end Go.Proofs.YtmepcmnpmhhiiaaGreatDoor
