/- Texts of the proof that ParseExpr holds, part 17; no conditions. -/
import Derived.Test.YtmepcmnpmhhiiaaGreatDoorPE16
import Derived.Test.YtmepcmnpmhhiiaaGreatDoorPE12
import Derived.Test.YtmepcmnpmhhiiaaGreatDoorPE05
import Derived.Test.YtmepcmnpmhhiiaaGreatDoorPE06
import Derived.Test.YtmepcmnpmhhiiaaGreatDoorPE08
import Derived.Lib.AtoiAllCases
namespace Go.Proofs.YtmepcmnpmhhiiaaGreatDoor
set_option linter.unusedVariables false
set_option linter.unusedSimpArgs false
set_option maxHeartbeats 8000000
set_option maxRecDepth 100000
section
open Go.RowKit Go.Maps Go.WideMaps Go.WideElems Go.WideShapes
def topV (ty : Int) : Int := if ty = 2 then 1 else if ty = 1 then 999999999 else 0
def frmK (kind n ty : Int) (name : Txt) (l : Lab) (m : Int) : Bool :=
 if kind = 1 then decide (0 < topV ty) && decide (0 ≤ n) && decide (n ≤ topV ty) && (m == 0) && ((l.length : Int) == 0) && (name == ⟨#[]⟩)
 else if kind = 2 then (n == 0) && (ty == 0) && isName name && (m == 0) && ((l.length : Int) == 0)
 else if kind = 3 then (n == 0) && (ty == 0) && !decide (0 < (l.length : Int)) && (((m == 2) && decide (0 < levelT name)) || ((m == 1) && (name == tNot || name == tMinus)))
 else if kind = 4 then (n == 0) && (ty == 0) && isName name && decide (m ≤ 4) && ((l.length : Int) == 0)
 else if kind = 5 then (n == 0) && (ty == 0) && (name == ⟨#[]⟩) && (m == 1) && formLR l
 else false
mutual
def frmE : Ex → Bool
 | .mk k _ n t s l a => frmL a && frmK k n t s l a.length
def frmL : List Ex → Bool
 | [] => true
 | x :: r => frmE x && frmL r
end
theorem frmL_at : ∀ {l : List Ex} {k : Nat} (h : k < l.length), frmE l[k] = false → frmL l = false
 | x :: r, 0, _, h => by
   have h' : frmE x = false := h
   simp [frmL, h']
 | x :: r, k + 1, h, he => by
   have := frmL_at (l := r) (k := k) (by simpa using h) (by simpa using he)
   simp [frmL, this]
theorem frmL_all : ∀ {l : List Ex}, (∀ k (h : k < l.length), frmE l[k] = true) → frmL l = true
 | [], _ => by simp [frmL]
 | x :: r, h => by
   have h0 : frmE x = true := h 0 (by simp)
   have := frmL_all (l := r) (fun k hk => h (k + 1) (by simpa using hk))
   simp [frmL, h0, this]
def MapI (W : World) (b n : Nat) (f : Int → Int) : Prop := ∃ D : DataW Unit, W.ownsMap Tryz.prog 3 (plainElem Tryz.prog 3) b n D ∧ ∀ x, D.atKey (.int .i64 x) (.lit (.int .i64 0)) = .lit (.int .i64 (f x))
theorem law_int : Keyed Tryz.prog 3 := int_keyed Tryz.underlying3
theorem key_int {c : Int} (h : (Lit.int .i64 c).wf = true) : keyOf Tryz.prog 3 (.int .i64 c) = some (.int .i64 c) := keyOf_int_mk Tryz.underlying3 h
theorem MapI.start (w : World) : MapI (w.alloc (.map #[] 0)) w.heap.size 0 (fun _ => 0) := ⟨.map [], World.ownsMap_made (H := Unit) w Tryz.prog 3 _, fun x => rfl⟩
theorem MapI.put {W : World} {b n : Nat} {f : Int → Int} (h : MapI W b n f) (hn : n < 100) {k c : Int} (hk : (Lit.int .i64 k).wf = true) (hc : (Lit.int .i64 c).wf = true) :
 ∃ W', (Instr.mapUpdate 171 (.map (some b)) (.int .i64 k) (.int .i64 c)).run Tryz.prog W = .ok () W' ∧ MapI W' b (n + 1) (fun x => if x = k then c else f x) ∧ W.grownBy W' (some b) := by
 obtain ⟨D, ho, hf⟩ := h
 obtain ⟨W', g1, g2, g3⟩ := ho.update law_int Tryz.underlying171 (by unfold maxLen; omega) (key_int hk) (plainElem_int Tryz.underlying3 hc)
 refine ⟨W', g1, ⟨_, g2, fun x => ?_⟩, g3⟩
 by_cases e : x = k
 · subst e
   simp only [if_true]
   rw [atKey_put_same ho.isMap (by trivial)]
 · simp only []
   rw [if_neg e, atKey_put_other (fun h => e (by simpa using h)), hf]
theorem MapI.look {W : World} {b n : Nat} {f : Int → Int} (h : MapI W b n f) {x : Int} (hx : (Lit.int .i64 x).wf = true) :
 (Instr.lookup 171 (.map (some b)) (.int .i64 x) false).run Tryz.prog W = .ok (.int .i64 (f x)) W := by
 obtain ⟨D, ho, hf⟩ := h
 obtain ⟨c, h1, h2, _⟩ := ho.lookup_int law_int Tryz.underlying171 Tryz.underlying3 (zero_int _) (key_int hx)
 rw [hf] at h2
 simp only [DataW.lit.injEq, Lit.int.injEq, true_and] at h2
 rw [h1, h2]
theorem frm_1 (at_ n ty : Int) (name : Txt) (l : Lab) (a : List Ex) (vl va : Value) (w : World) (hl : Lbl w l vl) (ha : Exs w a va) (hm : MaxL w) (hnm : okTxt name) (hty : (Lit.int .i64 ty).wf = true)
 (ih : ∀ (k : Nat) (h : k < a.length) (W : World) (v : Value), MaxL W → ExIs W a[k] v → Calls Tryz.prog 63 #[v] W fun e w' => e = .returned (.bool (frmE a[k])) ∧ Below W.heap.size W w') :
 Calls Tryz.prog 63 #[.agg #[.int .i64 1, .int .i64 at_, .int .i64 n, .int .i64 ty, .string name, vl, va]] w fun e w' =>
  e = .returned (.bool (frmL a && (decide (0 < topV ty) && decide (0 ≤ n) && decide (n ≤ topV ty) && ((a.length : Int) == 0) && ((l.length : Int) == 0) && (name == ⟨#[]⟩)))) ∧ Below w.heap.size w w' := by
 obtain ⟨pl, cl, rfl, h1⟩ := hl
 have hl : Lbl w l (.slice pl l.length cl) := ⟨pl, cl, rfl, h1⟩
 obtain ⟨b, o, c, p, rfl, hmax, hp, hkids⟩ := ha.at
 obtain ⟨W1, eW⟩ : ∃ W1, w.alloc (.cells #[.int .i64 1, .int .i64 at_, .int .i64 n, .int .i64 ty, .string name, .slice pl l.length cl, .slice p a.length c] 26) = W1 := ⟨_, rfl⟩
 have hb1 : Below w.heap.size w W1 := by rw [← eW]; exact (Below.refl _ _).alloc (Nat.le_refl _) _
 have hB : Blk W1 w.heap.size [.int .i64 1, .int .i64 at_, .int .i64 n, .int .i64 ty, .string name, .slice pl l.length cl, .slice p a.length c] 26 := by rw [← eW]; exact Blk.new _ _ _
 have HQ : Hid (∀ W, Below W1.heap.size W1 W → W.cell? ⟨w.heap.size, 0, none⟩ = some (.int .i64 1) ∧ W.cell? ⟨w.heap.size, 1, none⟩ = some (.int .i64 at_) ∧ W.cell? ⟨w.heap.size, 2, none⟩ = some (.int .i64 n) ∧ W.cell? ⟨w.heap.size, 3, none⟩ = some (.int .i64 ty) ∧ W.cell? ⟨w.heap.size, 4, none⟩ = some (.string name) ∧ W.cell? ⟨w.heap.size, 5, none⟩ = some (.slice pl l.length cl) ∧ W.cell? ⟨w.heap.size, 6, none⟩ = some (.slice p a.length c)) := fun W hb => (hB.below hb).cells7
 have HML : Hid (∀ W, Below W1.heap.size W1 W → MaxL W) := fun W hb => (hm.below hb1).below hb
 have HFI : Hid (∀ W, Below W1.heap.size W1 W → Calls Tryz.prog 97 #[.slice pl l.length cl] W fun e w' => e = .returned (.bool (formLR l)) ∧ Below W.heap.size W w') := fun W hb => formLabel_calls l _ W (hl.stays (keeps_of_below (hb1.trans (hb.mono hb1.size)))) ((hm.below hb1).below hb)
 have HKD : Hid (∀ W, Below W1.heap.size W1 W → ∀ (i : Nat) (hi : i < a.length), ∃ pl cl pa ca, ExIs W a[i] (.agg #[.int .i64 a[i].kind, .int .i64 a[i].at_, .int .i64 a[i].num, .int .i64 a[i].ty, .string a[i].name, .slice pl a[i].lab.length cl, .slice pa a[i].kids.length ca]) ∧
  W.cell? ⟨b, o + i * 7, none⟩ = some (.int .i64 a[i].kind) ∧ W.cell? ⟨b, o + i * 7 + 1, none⟩ = some (.int .i64 a[i].at_) ∧ W.cell? ⟨b, o + i * 7 + 2, none⟩ = some (.int .i64 a[i].num) ∧ W.cell? ⟨b, o + i * 7 + 3, none⟩ = some (.int .i64 a[i].ty) ∧
  W.cell? ⟨b, o + i * 7 + 4, none⟩ = some (.string a[i].name) ∧ W.cell? ⟨b, o + i * 7 + 5, none⟩ = some (.slice pl a[i].lab.length cl) ∧ W.cell? ⟨b, o + i * 7 + 6, none⟩ = some (.slice pa a[i].kids.length ca)) := fun W h i hi => by
  have hk := (keeps_of_below hb1).trans (keeps_of_below h)
  obtain ⟨pl, cl, pa, ca, g1, g2, g3, g4, g5, g6, g7, g8, g9⟩ := hkids i hi
  exact ⟨pl, cl, pa, ca, ⟨_, _, rfl, g1.stays hk, g2.stays hk⟩, hk.2 _ _ _ g3, hk.2 _ _ _ g4, hk.2 _ _ _ g5, hk.2 _ _ _ g6, hk.2 _ _ _ g7, hk.2 _ _ _ g8, hk.2 _ _ _ g9⟩
 obtain ⟨q0, q1, q2, q3, q4, q5, q6⟩ := hB.cells7
 have HBW := Hd hb1
 have HIH := Hd ih
 have HP := Hd hp
 have HNM := Hd hnm
 have HTY := Hd hty
 generalize hR : (decide (0 < topV ty) && decide (0 ≤ n) && decide (n ≤ topV ty) && ((a.length : Int) == 0) && ((l.length : Int) == 0) && (name == ⟨#[]⟩)) = R at *
 have HR := Hd hR
 generalize hFA : frmL a = FA
 have HFA := Hd hFA
 have hmm := @run_makeMap Tryz.prog
 clear hB hb1 hl ha hm hR hFA ih hp hkids h1 hnm hty
 go_enter Tryz.func63, Tryz.ntmps63
 go_wp2_with (fail)
 clear q0 q1 q2 q3 q4 q5 q6 eW
 go_loopw [4, 10] (fun _ i ws => ∃ (k : Nat) (wo : World), k ≤ a.length ∧ i = .int .i64 k ∧ wo = ws ∧ Hid (Below W1.heap.size W1 wo) ∧ Hid (∀ j (hj : j < a.length), j < k → frmE a[j] = true)) (fun _ i _ => a.length - (intOf i).toNat)
 case atStart => exact ⟨0, _, Nat.zero_le _, rfl, rfl, Below.refl _ _, fun j _ h => absurd h (by omega)⟩
 case round =>
  obtain ⟨k, wo, hk, rfl, rfl, HB, HA⟩ := hrel
  by_cases hlt : k < a.length
  · obtain ⟨pl', cl', pa', ca', hy, g0, g1, g2, g3, g4, g5, g6⟩ := HKD.out wo HB.out k hlt
    obtain rfl := HP.out (by omega)
    have hki : (k : Int) < (a.length : Int) := by omega
    have hk0 : (0 : Int) ≤ (k : Int) := by omega
    have hkm : (k : Int) + 1 ≤ 9223372036854775807 := by omega
    have HC0 := Hd (HIH.out k hlt)
    have HAT : Hid (frmE a[k] = false → frmL a = false) := fun h => frmL_at hlt h
    have HAN : Hid (frmE a[k] = true → ∀ j (hj : j < a.length), j < k + 1 → frmE a[j] = true) := fun h j h1 h3 => by
     rcases Nat.lt_or_ge j k with h4 | h4
     · exact HA.out j h1 h4
     · obtain rfl : j = k := by omega
       exact h
    have HLT := Hd hlt
    generalize a[k] = y at *
    obtain ⟨W2, eW2⟩ : ∃ W2, wo.alloc (.cells #[.int .i64 y.kind, .int .i64 y.at_, .int .i64 y.num, .int .i64 y.ty, .string y.name, .slice pl' y.lab.length cl', .slice pa' y.kids.length ca'] 26) = W2 := ⟨_, rfl⟩
    have hb2 : Below wo.heap.size wo W2 := by rw [← eW2]; exact (Below.refl _ _).alloc (Nat.le_refl _) _
    have hB2 : Blk W2 wo.heap.size (exC y (.slice pl' y.lab.length cl') (.slice pa' y.kids.length ca')) 26 := by rw [← eW2]; exact Blk.new _ _ _
    have HB2 := Hd (HB.out.trans (hb2.mono HB.out.size))
    have HC := Hd (HC0.out W2 _ (HML.out W2 HB2.out) (hy.stays (keeps_of_below hb2)))
    obtain ⟨c0, c1, c2, c3, c4, c5, c6⟩ := hB2.cells7
    clear hb2 hB2 hy hk hlt HC0
    cases hs : frmE y with
    | true =>
      have HN := Hd (HAN.out hs)
      rw [hs] at HC
      clear hs HAT HAN
      go_wp2_with (fail)
      refine HC.out.mono ?_
      rintro e w3 ⟨rfl, hb3⟩
      have HB3 := Hd (HB2.out.trans (hb3.mono HB2.out.size))
      clear hb3
      go_wp2_with (fail)
      go_roundw
      case rel => exact ⟨k + 1, _, by have h1 := HLT.out; omega, by go_num, rfl, HB3.out, HN.out⟩
      case measure => have h1 := HLT.out; simp [intOf]; omega
    | false =>
      have HN := Hd (HAT.out hs)
      rw [hs] at HC
      clear hs HAT HAN
      go_wp2_with (fail)
      refine HC.out.mono ?_
      rintro e w3 ⟨rfl, hb3⟩
      have HB3 := Hd (HB2.out.trans (hb3.mono HB2.out.size))
      clear hb3
      go_wp2_with (fail)
      go_ret
      exact ⟨by rw [← HFA.out, HN.out]; rfl, HBW.out.trans (HB3.out.mono HBW.out.size)⟩
  · have hki : ¬ (k : Int) < (a.length : Int) := by omega
    have HALL : Hid (frmL a = true) := frmL_all fun j hj => HA.out j hj (by omega)
    have HBz : Hid (Below W1.heap.size W1 wo) := Hd HB.out
    obtain ⟨q0, q1, q2, q3, q4, q5, q6⟩ := HQ.out wo HBz.out
    generalize hfit : formLR l = fl at *
    generalize hnam : isName name = nm at *
    generalize hlev : levelT name = lv at *
    have HL2 : Hid (levelT name = lv) := hlev
    have HN2 : Hid (isName name = nm) := hnam
    clear hfit hnam hlev hlt hk
    obtain ⟨V0, e0⟩ : ∃ V0, wo.alloc (.map #[] 0) = V0 := ⟨_, rfl⟩
    have m0 : MapI V0 wo.heap.size 0 (fun _ => 0) := by rw [← e0]; exact MapI.start wo
    have b0 : Below wo.heap.size wo V0 := by rw [← e0]; exact (Below.refl _ _).alloc (Nat.le_refl _) _
    obtain ⟨V1, u1, m1, g1⟩ := m0.put (by omega) (k := 1) (by decide) (c := 999999999) (by decide)
    obtain ⟨V2, u2, m2, g2⟩ := m1.put (by omega) (k := 2) (by decide) (c := 1) (by decide)
    have hlook : (Instr.lookup 171 (.map (some wo.heap.size)) (.int .i64 ty) false).run Tryz.prog V2 = .ok (.int .i64 (topV ty)) V2 := m2.look HTY.out
    have gall := g1.trans g2
    have hbV : Below wo.heap.size wo V2 := ⟨gall.os.trans b0.os, gall.tape.trans b0.tape, gall.output.trans b0.output, Nat.le_trans b0.size gall.size, fun i hi => (gall.block i (Nat.lt_of_lt_of_le hi b0.size) (by simp; omega)).trans (b0.block i hi)⟩
    have HBV := Hd (HBz.out.trans (hbV.mono HBz.out.size))
    obtain ⟨q0', q1', q2', q3', q4', q5', q6'⟩ := HQ.out V2 HBV.out
    obtain ⟨qa, qb, qc, qd, qe, qf, qg⟩ := HQ.out V0 (HBz.out.trans (b0.mono HBz.out.size))
    clear m0 m1 m2 g1 g2 gall b0 hbV
    generalize topV ty = tp at *
    go_wp2_with (fail)
    all_goals (
     go_ret
     refine ⟨ret_bool ?_, HBW.out.trans (HBV.out.mono HBW.out.size)⟩
     first
      | (rw [← HR.out, ← HFA.out, HALL.out]; done)
      | (rw [← HR.out, ← HFA.out, HALL.out]; simp [txt_beq, e_list, minus_list, not_list, *]; done)
      | (rw [← HR.out, ← HFA.out, HALL.out]; simp [txt_beq, e_list, minus_list, not_list, *]; intros; first | (exfalso; omega) | (rw [Bool.eq_iff_iff]; simp; done) | (rw [Bool.eq_iff_iff]; simp [*]; done) | ((try constructor) <;> intros <;> omega)))
theorem frm_2 (at_ n ty : Int) (name : Txt) (l : Lab) (a : List Ex) (vl va : Value) (w : World) (hl : Lbl w l vl) (ha : Exs w a va) (hm : MaxL w) (hnm : okTxt name) (hty : (Lit.int .i64 ty).wf = true)
 (ih : ∀ (k : Nat) (h : k < a.length) (W : World) (v : Value), MaxL W → ExIs W a[k] v → Calls Tryz.prog 63 #[v] W fun e w' => e = .returned (.bool (frmE a[k])) ∧ Below W.heap.size W w') :
 Calls Tryz.prog 63 #[.agg #[.int .i64 2, .int .i64 at_, .int .i64 n, .int .i64 ty, .string name, vl, va]] w fun e w' =>
  e = .returned (.bool (frmL a && ((n == 0) && (ty == 0) && isName name && ((a.length : Int) == 0) && ((l.length : Int) == 0)))) ∧ Below w.heap.size w w' := by
 obtain ⟨pl, cl, rfl, h1⟩ := hl
 have hl : Lbl w l (.slice pl l.length cl) := ⟨pl, cl, rfl, h1⟩
 obtain ⟨b, o, c, p, rfl, hmax, hp, hkids⟩ := ha.at
 obtain ⟨W1, eW⟩ : ∃ W1, w.alloc (.cells #[.int .i64 2, .int .i64 at_, .int .i64 n, .int .i64 ty, .string name, .slice pl l.length cl, .slice p a.length c] 26) = W1 := ⟨_, rfl⟩
 have hb1 : Below w.heap.size w W1 := by rw [← eW]; exact (Below.refl _ _).alloc (Nat.le_refl _) _
 have hB : Blk W1 w.heap.size [.int .i64 2, .int .i64 at_, .int .i64 n, .int .i64 ty, .string name, .slice pl l.length cl, .slice p a.length c] 26 := by rw [← eW]; exact Blk.new _ _ _
 have HQ : Hid (∀ W, Below W1.heap.size W1 W → W.cell? ⟨w.heap.size, 0, none⟩ = some (.int .i64 2) ∧ W.cell? ⟨w.heap.size, 1, none⟩ = some (.int .i64 at_) ∧ W.cell? ⟨w.heap.size, 2, none⟩ = some (.int .i64 n) ∧ W.cell? ⟨w.heap.size, 3, none⟩ = some (.int .i64 ty) ∧ W.cell? ⟨w.heap.size, 4, none⟩ = some (.string name) ∧ W.cell? ⟨w.heap.size, 5, none⟩ = some (.slice pl l.length cl) ∧ W.cell? ⟨w.heap.size, 6, none⟩ = some (.slice p a.length c)) := fun W hb => (hB.below hb).cells7
 have HML : Hid (∀ W, Below W1.heap.size W1 W → MaxL W) := fun W hb => (hm.below hb1).below hb
 have HFI : Hid (∀ W, Below W1.heap.size W1 W → Calls Tryz.prog 97 #[.slice pl l.length cl] W fun e w' => e = .returned (.bool (formLR l)) ∧ Below W.heap.size W w') := fun W hb => formLabel_calls l _ W (hl.stays (keeps_of_below (hb1.trans (hb.mono hb1.size)))) ((hm.below hb1).below hb)
 have HKD : Hid (∀ W, Below W1.heap.size W1 W → ∀ (i : Nat) (hi : i < a.length), ∃ pl cl pa ca, ExIs W a[i] (.agg #[.int .i64 a[i].kind, .int .i64 a[i].at_, .int .i64 a[i].num, .int .i64 a[i].ty, .string a[i].name, .slice pl a[i].lab.length cl, .slice pa a[i].kids.length ca]) ∧
  W.cell? ⟨b, o + i * 7, none⟩ = some (.int .i64 a[i].kind) ∧ W.cell? ⟨b, o + i * 7 + 1, none⟩ = some (.int .i64 a[i].at_) ∧ W.cell? ⟨b, o + i * 7 + 2, none⟩ = some (.int .i64 a[i].num) ∧ W.cell? ⟨b, o + i * 7 + 3, none⟩ = some (.int .i64 a[i].ty) ∧
  W.cell? ⟨b, o + i * 7 + 4, none⟩ = some (.string a[i].name) ∧ W.cell? ⟨b, o + i * 7 + 5, none⟩ = some (.slice pl a[i].lab.length cl) ∧ W.cell? ⟨b, o + i * 7 + 6, none⟩ = some (.slice pa a[i].kids.length ca)) := fun W h i hi => by
  have hk := (keeps_of_below hb1).trans (keeps_of_below h)
  obtain ⟨pl, cl, pa, ca, g1, g2, g3, g4, g5, g6, g7, g8, g9⟩ := hkids i hi
  exact ⟨pl, cl, pa, ca, ⟨_, _, rfl, g1.stays hk, g2.stays hk⟩, hk.2 _ _ _ g3, hk.2 _ _ _ g4, hk.2 _ _ _ g5, hk.2 _ _ _ g6, hk.2 _ _ _ g7, hk.2 _ _ _ g8, hk.2 _ _ _ g9⟩
 obtain ⟨q0, q1, q2, q3, q4, q5, q6⟩ := hB.cells7
 have HBW := Hd hb1
 have HIH := Hd ih
 have HP := Hd hp
 have HNM := Hd hnm
 have HTY := Hd hty
 generalize hR : ((n == 0) && (ty == 0) && isName name && ((a.length : Int) == 0) && ((l.length : Int) == 0)) = R at *
 have HR := Hd hR
 generalize hFA : frmL a = FA
 have HFA := Hd hFA
 have hmm := @run_makeMap Tryz.prog
 clear hB hb1 hl ha hm hR hFA ih hp hkids h1 hnm hty
 go_enter Tryz.func63, Tryz.ntmps63
 go_wp2_with (fail)
 clear q0 q1 q2 q3 q4 q5 q6 eW
 go_loopw [4, 10] (fun _ i ws => ∃ (k : Nat) (wo : World), k ≤ a.length ∧ i = .int .i64 k ∧ wo = ws ∧ Hid (Below W1.heap.size W1 wo) ∧ Hid (∀ j (hj : j < a.length), j < k → frmE a[j] = true)) (fun _ i _ => a.length - (intOf i).toNat)
 case atStart => exact ⟨0, _, Nat.zero_le _, rfl, rfl, Below.refl _ _, fun j _ h => absurd h (by omega)⟩
 case round =>
  obtain ⟨k, wo, hk, rfl, rfl, HB, HA⟩ := hrel
  by_cases hlt : k < a.length
  · obtain ⟨pl', cl', pa', ca', hy, g0, g1, g2, g3, g4, g5, g6⟩ := HKD.out wo HB.out k hlt
    obtain rfl := HP.out (by omega)
    have hki : (k : Int) < (a.length : Int) := by omega
    have hk0 : (0 : Int) ≤ (k : Int) := by omega
    have hkm : (k : Int) + 1 ≤ 9223372036854775807 := by omega
    have HC0 := Hd (HIH.out k hlt)
    have HAT : Hid (frmE a[k] = false → frmL a = false) := fun h => frmL_at hlt h
    have HAN : Hid (frmE a[k] = true → ∀ j (hj : j < a.length), j < k + 1 → frmE a[j] = true) := fun h j h1 h3 => by
     rcases Nat.lt_or_ge j k with h4 | h4
     · exact HA.out j h1 h4
     · obtain rfl : j = k := by omega
       exact h
    have HLT := Hd hlt
    generalize a[k] = y at *
    obtain ⟨W2, eW2⟩ : ∃ W2, wo.alloc (.cells #[.int .i64 y.kind, .int .i64 y.at_, .int .i64 y.num, .int .i64 y.ty, .string y.name, .slice pl' y.lab.length cl', .slice pa' y.kids.length ca'] 26) = W2 := ⟨_, rfl⟩
    have hb2 : Below wo.heap.size wo W2 := by rw [← eW2]; exact (Below.refl _ _).alloc (Nat.le_refl _) _
    have hB2 : Blk W2 wo.heap.size (exC y (.slice pl' y.lab.length cl') (.slice pa' y.kids.length ca')) 26 := by rw [← eW2]; exact Blk.new _ _ _
    have HB2 := Hd (HB.out.trans (hb2.mono HB.out.size))
    have HC := Hd (HC0.out W2 _ (HML.out W2 HB2.out) (hy.stays (keeps_of_below hb2)))
    obtain ⟨c0, c1, c2, c3, c4, c5, c6⟩ := hB2.cells7
    clear hb2 hB2 hy hk hlt HC0
    cases hs : frmE y with
    | true =>
      have HN := Hd (HAN.out hs)
      rw [hs] at HC
      clear hs HAT HAN
      go_wp2_with (fail)
      refine HC.out.mono ?_
      rintro e w3 ⟨rfl, hb3⟩
      have HB3 := Hd (HB2.out.trans (hb3.mono HB2.out.size))
      clear hb3
      go_wp2_with (fail)
      go_roundw
      case rel => exact ⟨k + 1, _, by have h1 := HLT.out; omega, by go_num, rfl, HB3.out, HN.out⟩
      case measure => have h1 := HLT.out; simp [intOf]; omega
    | false =>
      have HN := Hd (HAT.out hs)
      rw [hs] at HC
      clear hs HAT HAN
      go_wp2_with (fail)
      refine HC.out.mono ?_
      rintro e w3 ⟨rfl, hb3⟩
      have HB3 := Hd (HB2.out.trans (hb3.mono HB2.out.size))
      clear hb3
      go_wp2_with (fail)
      go_ret
      exact ⟨by rw [← HFA.out, HN.out]; rfl, HBW.out.trans (HB3.out.mono HBW.out.size)⟩
  · have hki : ¬ (k : Int) < (a.length : Int) := by omega
    have HALL : Hid (frmL a = true) := frmL_all fun j hj => HA.out j hj (by omega)
    have HBz : Hid (Below W1.heap.size W1 wo) := Hd HB.out
    obtain ⟨q0, q1, q2, q3, q4, q5, q6⟩ := HQ.out wo HBz.out
    generalize hfit : formLR l = fl at *
    generalize hnam : isName name = nm at *
    generalize hlev : levelT name = lv at *
    have HL2 : Hid (levelT name = lv) := hlev
    have HN2 : Hid (isName name = nm) := hnam
    clear hfit hnam hlev hlt hk
    cases nm
    all_goals (
     go_wp2_with (first
      | (go_at_call 26; refine (levelOf_calls name _ HNM.out).mono ?_; rintro e w2 ⟨rfl, hb2⟩; replace HBz := Hd (HBz.out.trans (hb2.mono HBz.out.size)); clear hb2; clear q0 q1 q2 q3 q4 q5 q6; obtain ⟨q0, q1, q2, q3, q4, q5, q6⟩ := HQ.out _ HBz.out; rw [HL2.out])
      | (go_at_call 96; refine (refNameM_calls name _ HNM.out (HML.out _ HBz.out)).mono ?_; rintro e w3 ⟨rfl, hb3⟩; replace HBz := Hd (HBz.out.trans (hb3.mono HBz.out.size)); clear hb3; clear q0 q1 q2 q3 q4 q5 q6; obtain ⟨q0, q1, q2, q3, q4, q5, q6⟩ := HQ.out _ HBz.out; rw [HN2.out])
      | (go_at_call 97; refine (HFI.out _ HBz.out).mono ?_; rintro e w4 ⟨rfl, hb4⟩; replace HBz := Hd (HBz.out.trans (hb4.mono HBz.out.size)); clear hb4; clear q0 q1 q2 q3 q4 q5 q6; obtain ⟨q0, q1, q2, q3, q4, q5, q6⟩ := HQ.out _ HBz.out)))
    all_goals (
     go_ret
     refine ⟨ret_bool ?_, HBW.out.trans (HBz.out.mono HBW.out.size)⟩
     first
      | (rw [← HR.out, ← HFA.out, HALL.out]; done)
      | (rw [← HR.out, ← HFA.out, HALL.out]; simp [txt_beq, e_list, minus_list, not_list, *]; done)
      | (rw [← HR.out, ← HFA.out, HALL.out]; simp [txt_beq, e_list, minus_list, not_list, *]; intros; first | (exfalso; omega) | (rw [Bool.eq_iff_iff]; simp; done) | (rw [Bool.eq_iff_iff]; simp [*]; done) | ((try constructor) <;> intros <;> omega)))
theorem frm_3 (at_ n ty : Int) (name : Txt) (l : Lab) (a : List Ex) (vl va : Value) (w : World) (hl : Lbl w l vl) (ha : Exs w a va) (hm : MaxL w) (hnm : okTxt name) (hty : (Lit.int .i64 ty).wf = true)
 (ih : ∀ (k : Nat) (h : k < a.length) (W : World) (v : Value), MaxL W → ExIs W a[k] v → Calls Tryz.prog 63 #[v] W fun e w' => e = .returned (.bool (frmE a[k])) ∧ Below W.heap.size W w') :
 Calls Tryz.prog 63 #[.agg #[.int .i64 3, .int .i64 at_, .int .i64 n, .int .i64 ty, .string name, vl, va]] w fun e w' =>
  e = .returned (.bool (frmL a && ((n == 0) && (ty == 0) && !decide (0 < (l.length : Int)) && ((((a.length : Int) == 2) && decide (0 < levelT name)) || (((a.length : Int) == 1) && (name == tNot || name == tMinus)))))) ∧ Below w.heap.size w w' := by
 obtain ⟨pl, cl, rfl, h1⟩ := hl
 have hl : Lbl w l (.slice pl l.length cl) := ⟨pl, cl, rfl, h1⟩
 obtain ⟨b, o, c, p, rfl, hmax, hp, hkids⟩ := ha.at
 obtain ⟨W1, eW⟩ : ∃ W1, w.alloc (.cells #[.int .i64 3, .int .i64 at_, .int .i64 n, .int .i64 ty, .string name, .slice pl l.length cl, .slice p a.length c] 26) = W1 := ⟨_, rfl⟩
 have hb1 : Below w.heap.size w W1 := by rw [← eW]; exact (Below.refl _ _).alloc (Nat.le_refl _) _
 have hB : Blk W1 w.heap.size [.int .i64 3, .int .i64 at_, .int .i64 n, .int .i64 ty, .string name, .slice pl l.length cl, .slice p a.length c] 26 := by rw [← eW]; exact Blk.new _ _ _
 have HQ : Hid (∀ W, Below W1.heap.size W1 W → W.cell? ⟨w.heap.size, 0, none⟩ = some (.int .i64 3) ∧ W.cell? ⟨w.heap.size, 1, none⟩ = some (.int .i64 at_) ∧ W.cell? ⟨w.heap.size, 2, none⟩ = some (.int .i64 n) ∧ W.cell? ⟨w.heap.size, 3, none⟩ = some (.int .i64 ty) ∧ W.cell? ⟨w.heap.size, 4, none⟩ = some (.string name) ∧ W.cell? ⟨w.heap.size, 5, none⟩ = some (.slice pl l.length cl) ∧ W.cell? ⟨w.heap.size, 6, none⟩ = some (.slice p a.length c)) := fun W hb => (hB.below hb).cells7
 have HML : Hid (∀ W, Below W1.heap.size W1 W → MaxL W) := fun W hb => (hm.below hb1).below hb
 have HFI : Hid (∀ W, Below W1.heap.size W1 W → Calls Tryz.prog 97 #[.slice pl l.length cl] W fun e w' => e = .returned (.bool (formLR l)) ∧ Below W.heap.size W w') := fun W hb => formLabel_calls l _ W (hl.stays (keeps_of_below (hb1.trans (hb.mono hb1.size)))) ((hm.below hb1).below hb)
 have HKD : Hid (∀ W, Below W1.heap.size W1 W → ∀ (i : Nat) (hi : i < a.length), ∃ pl cl pa ca, ExIs W a[i] (.agg #[.int .i64 a[i].kind, .int .i64 a[i].at_, .int .i64 a[i].num, .int .i64 a[i].ty, .string a[i].name, .slice pl a[i].lab.length cl, .slice pa a[i].kids.length ca]) ∧
  W.cell? ⟨b, o + i * 7, none⟩ = some (.int .i64 a[i].kind) ∧ W.cell? ⟨b, o + i * 7 + 1, none⟩ = some (.int .i64 a[i].at_) ∧ W.cell? ⟨b, o + i * 7 + 2, none⟩ = some (.int .i64 a[i].num) ∧ W.cell? ⟨b, o + i * 7 + 3, none⟩ = some (.int .i64 a[i].ty) ∧
  W.cell? ⟨b, o + i * 7 + 4, none⟩ = some (.string a[i].name) ∧ W.cell? ⟨b, o + i * 7 + 5, none⟩ = some (.slice pl a[i].lab.length cl) ∧ W.cell? ⟨b, o + i * 7 + 6, none⟩ = some (.slice pa a[i].kids.length ca)) := fun W h i hi => by
  have hk := (keeps_of_below hb1).trans (keeps_of_below h)
  obtain ⟨pl, cl, pa, ca, g1, g2, g3, g4, g5, g6, g7, g8, g9⟩ := hkids i hi
  exact ⟨pl, cl, pa, ca, ⟨_, _, rfl, g1.stays hk, g2.stays hk⟩, hk.2 _ _ _ g3, hk.2 _ _ _ g4, hk.2 _ _ _ g5, hk.2 _ _ _ g6, hk.2 _ _ _ g7, hk.2 _ _ _ g8, hk.2 _ _ _ g9⟩
 obtain ⟨q0, q1, q2, q3, q4, q5, q6⟩ := hB.cells7
 have HBW := Hd hb1
 have HIH := Hd ih
 have HP := Hd hp
 have HNM := Hd hnm
 have HTY := Hd hty
 generalize hR : ((n == 0) && (ty == 0) && !decide (0 < (l.length : Int)) && ((((a.length : Int) == 2) && decide (0 < levelT name)) || (((a.length : Int) == 1) && (name == tNot || name == tMinus)))) = R at *
 have HR := Hd hR
 generalize hFA : frmL a = FA
 have HFA := Hd hFA
 have hmm := @run_makeMap Tryz.prog
 clear hB hb1 hl ha hm hR hFA ih hp hkids h1 hnm hty
 go_enter Tryz.func63, Tryz.ntmps63
 go_wp2_with (fail)
 clear q0 q1 q2 q3 q4 q5 q6 eW
 go_loopw [4, 10] (fun _ i ws => ∃ (k : Nat) (wo : World), k ≤ a.length ∧ i = .int .i64 k ∧ wo = ws ∧ Hid (Below W1.heap.size W1 wo) ∧ Hid (∀ j (hj : j < a.length), j < k → frmE a[j] = true)) (fun _ i _ => a.length - (intOf i).toNat)
 case atStart => exact ⟨0, _, Nat.zero_le _, rfl, rfl, Below.refl _ _, fun j _ h => absurd h (by omega)⟩
 case round =>
  obtain ⟨k, wo, hk, rfl, rfl, HB, HA⟩ := hrel
  by_cases hlt : k < a.length
  · obtain ⟨pl', cl', pa', ca', hy, g0, g1, g2, g3, g4, g5, g6⟩ := HKD.out wo HB.out k hlt
    obtain rfl := HP.out (by omega)
    have hki : (k : Int) < (a.length : Int) := by omega
    have hk0 : (0 : Int) ≤ (k : Int) := by omega
    have hkm : (k : Int) + 1 ≤ 9223372036854775807 := by omega
    have HC0 := Hd (HIH.out k hlt)
    have HAT : Hid (frmE a[k] = false → frmL a = false) := fun h => frmL_at hlt h
    have HAN : Hid (frmE a[k] = true → ∀ j (hj : j < a.length), j < k + 1 → frmE a[j] = true) := fun h j h1 h3 => by
     rcases Nat.lt_or_ge j k with h4 | h4
     · exact HA.out j h1 h4
     · obtain rfl : j = k := by omega
       exact h
    have HLT := Hd hlt
    generalize a[k] = y at *
    obtain ⟨W2, eW2⟩ : ∃ W2, wo.alloc (.cells #[.int .i64 y.kind, .int .i64 y.at_, .int .i64 y.num, .int .i64 y.ty, .string y.name, .slice pl' y.lab.length cl', .slice pa' y.kids.length ca'] 26) = W2 := ⟨_, rfl⟩
    have hb2 : Below wo.heap.size wo W2 := by rw [← eW2]; exact (Below.refl _ _).alloc (Nat.le_refl _) _
    have hB2 : Blk W2 wo.heap.size (exC y (.slice pl' y.lab.length cl') (.slice pa' y.kids.length ca')) 26 := by rw [← eW2]; exact Blk.new _ _ _
    have HB2 := Hd (HB.out.trans (hb2.mono HB.out.size))
    have HC := Hd (HC0.out W2 _ (HML.out W2 HB2.out) (hy.stays (keeps_of_below hb2)))
    obtain ⟨c0, c1, c2, c3, c4, c5, c6⟩ := hB2.cells7
    clear hb2 hB2 hy hk hlt HC0
    cases hs : frmE y with
    | true =>
      have HN := Hd (HAN.out hs)
      rw [hs] at HC
      clear hs HAT HAN
      go_wp2_with (fail)
      refine HC.out.mono ?_
      rintro e w3 ⟨rfl, hb3⟩
      have HB3 := Hd (HB2.out.trans (hb3.mono HB2.out.size))
      clear hb3
      go_wp2_with (fail)
      go_roundw
      case rel => exact ⟨k + 1, _, by have h1 := HLT.out; omega, by go_num, rfl, HB3.out, HN.out⟩
      case measure => have h1 := HLT.out; simp [intOf]; omega
    | false =>
      have HN := Hd (HAT.out hs)
      rw [hs] at HC
      clear hs HAT HAN
      go_wp2_with (fail)
      refine HC.out.mono ?_
      rintro e w3 ⟨rfl, hb3⟩
      have HB3 := Hd (HB2.out.trans (hb3.mono HB2.out.size))
      clear hb3
      go_wp2_with (fail)
      go_ret
      exact ⟨by rw [← HFA.out, HN.out]; rfl, HBW.out.trans (HB3.out.mono HBW.out.size)⟩
  · have hki : ¬ (k : Int) < (a.length : Int) := by omega
    have HALL : Hid (frmL a = true) := frmL_all fun j hj => HA.out j hj (by omega)
    have HBz : Hid (Below W1.heap.size W1 wo) := Hd HB.out
    obtain ⟨q0, q1, q2, q3, q4, q5, q6⟩ := HQ.out wo HBz.out
    generalize hfit : formLR l = fl at *
    generalize hnam : isName name = nm at *
    generalize hlev : levelT name = lv at *
    have HL2 : Hid (levelT name = lv) := hlev
    have HN2 : Hid (isName name = nm) := hnam
    clear hfit hnam hlev hlt hk
    skip
    all_goals (
     go_wp2_with (first
      | (go_at_call 26; refine (levelOf_calls name _ HNM.out).mono ?_; rintro e w2 ⟨rfl, hb2⟩; replace HBz := Hd (HBz.out.trans (hb2.mono HBz.out.size)); clear hb2; clear q0 q1 q2 q3 q4 q5 q6; obtain ⟨q0, q1, q2, q3, q4, q5, q6⟩ := HQ.out _ HBz.out; rw [HL2.out])
      | (go_at_call 96; refine (refNameM_calls name _ HNM.out (HML.out _ HBz.out)).mono ?_; rintro e w3 ⟨rfl, hb3⟩; replace HBz := Hd (HBz.out.trans (hb3.mono HBz.out.size)); clear hb3; clear q0 q1 q2 q3 q4 q5 q6; obtain ⟨q0, q1, q2, q3, q4, q5, q6⟩ := HQ.out _ HBz.out; rw [HN2.out])
      | (go_at_call 97; refine (HFI.out _ HBz.out).mono ?_; rintro e w4 ⟨rfl, hb4⟩; replace HBz := Hd (HBz.out.trans (hb4.mono HBz.out.size)); clear hb4; clear q0 q1 q2 q3 q4 q5 q6; obtain ⟨q0, q1, q2, q3, q4, q5, q6⟩ := HQ.out _ HBz.out)))
    all_goals (
     go_ret
     refine ⟨ret_bool ?_, HBW.out.trans (HBz.out.mono HBW.out.size)⟩
     first
      | (rw [← HR.out, ← HFA.out, HALL.out]; done)
      | (rw [← HR.out, ← HFA.out, HALL.out]; simp [txt_beq, e_list, minus_list, not_list, *]; done)
      | (rw [← HR.out, ← HFA.out, HALL.out]; simp [txt_beq, e_list, minus_list, not_list, *]; intros; first | (exfalso; omega) | (rw [Bool.eq_iff_iff]; simp; done) | (rw [Bool.eq_iff_iff]; simp [*]; done) | ((try constructor) <;> intros <;> omega)))
theorem frm_4 (at_ n ty : Int) (name : Txt) (l : Lab) (a : List Ex) (vl va : Value) (w : World) (hl : Lbl w l vl) (ha : Exs w a va) (hm : MaxL w) (hnm : okTxt name) (hty : (Lit.int .i64 ty).wf = true)
 (ih : ∀ (k : Nat) (h : k < a.length) (W : World) (v : Value), MaxL W → ExIs W a[k] v → Calls Tryz.prog 63 #[v] W fun e w' => e = .returned (.bool (frmE a[k])) ∧ Below W.heap.size W w') :
 Calls Tryz.prog 63 #[.agg #[.int .i64 4, .int .i64 at_, .int .i64 n, .int .i64 ty, .string name, vl, va]] w fun e w' =>
  e = .returned (.bool (frmL a && ((n == 0) && (ty == 0) && isName name && decide ((a.length : Int) ≤ 4) && ((l.length : Int) == 0)))) ∧ Below w.heap.size w w' := by
 obtain ⟨pl, cl, rfl, h1⟩ := hl
 have hl : Lbl w l (.slice pl l.length cl) := ⟨pl, cl, rfl, h1⟩
 obtain ⟨b, o, c, p, rfl, hmax, hp, hkids⟩ := ha.at
 obtain ⟨W1, eW⟩ : ∃ W1, w.alloc (.cells #[.int .i64 4, .int .i64 at_, .int .i64 n, .int .i64 ty, .string name, .slice pl l.length cl, .slice p a.length c] 26) = W1 := ⟨_, rfl⟩
 have hb1 : Below w.heap.size w W1 := by rw [← eW]; exact (Below.refl _ _).alloc (Nat.le_refl _) _
 have hB : Blk W1 w.heap.size [.int .i64 4, .int .i64 at_, .int .i64 n, .int .i64 ty, .string name, .slice pl l.length cl, .slice p a.length c] 26 := by rw [← eW]; exact Blk.new _ _ _
 have HQ : Hid (∀ W, Below W1.heap.size W1 W → W.cell? ⟨w.heap.size, 0, none⟩ = some (.int .i64 4) ∧ W.cell? ⟨w.heap.size, 1, none⟩ = some (.int .i64 at_) ∧ W.cell? ⟨w.heap.size, 2, none⟩ = some (.int .i64 n) ∧ W.cell? ⟨w.heap.size, 3, none⟩ = some (.int .i64 ty) ∧ W.cell? ⟨w.heap.size, 4, none⟩ = some (.string name) ∧ W.cell? ⟨w.heap.size, 5, none⟩ = some (.slice pl l.length cl) ∧ W.cell? ⟨w.heap.size, 6, none⟩ = some (.slice p a.length c)) := fun W hb => (hB.below hb).cells7
 have HML : Hid (∀ W, Below W1.heap.size W1 W → MaxL W) := fun W hb => (hm.below hb1).below hb
 have HFI : Hid (∀ W, Below W1.heap.size W1 W → Calls Tryz.prog 97 #[.slice pl l.length cl] W fun e w' => e = .returned (.bool (formLR l)) ∧ Below W.heap.size W w') := fun W hb => formLabel_calls l _ W (hl.stays (keeps_of_below (hb1.trans (hb.mono hb1.size)))) ((hm.below hb1).below hb)
 have HKD : Hid (∀ W, Below W1.heap.size W1 W → ∀ (i : Nat) (hi : i < a.length), ∃ pl cl pa ca, ExIs W a[i] (.agg #[.int .i64 a[i].kind, .int .i64 a[i].at_, .int .i64 a[i].num, .int .i64 a[i].ty, .string a[i].name, .slice pl a[i].lab.length cl, .slice pa a[i].kids.length ca]) ∧
  W.cell? ⟨b, o + i * 7, none⟩ = some (.int .i64 a[i].kind) ∧ W.cell? ⟨b, o + i * 7 + 1, none⟩ = some (.int .i64 a[i].at_) ∧ W.cell? ⟨b, o + i * 7 + 2, none⟩ = some (.int .i64 a[i].num) ∧ W.cell? ⟨b, o + i * 7 + 3, none⟩ = some (.int .i64 a[i].ty) ∧
  W.cell? ⟨b, o + i * 7 + 4, none⟩ = some (.string a[i].name) ∧ W.cell? ⟨b, o + i * 7 + 5, none⟩ = some (.slice pl a[i].lab.length cl) ∧ W.cell? ⟨b, o + i * 7 + 6, none⟩ = some (.slice pa a[i].kids.length ca)) := fun W h i hi => by
  have hk := (keeps_of_below hb1).trans (keeps_of_below h)
  obtain ⟨pl, cl, pa, ca, g1, g2, g3, g4, g5, g6, g7, g8, g9⟩ := hkids i hi
  exact ⟨pl, cl, pa, ca, ⟨_, _, rfl, g1.stays hk, g2.stays hk⟩, hk.2 _ _ _ g3, hk.2 _ _ _ g4, hk.2 _ _ _ g5, hk.2 _ _ _ g6, hk.2 _ _ _ g7, hk.2 _ _ _ g8, hk.2 _ _ _ g9⟩
 obtain ⟨q0, q1, q2, q3, q4, q5, q6⟩ := hB.cells7
 have HBW := Hd hb1
 have HIH := Hd ih
 have HP := Hd hp
 have HNM := Hd hnm
 have HTY := Hd hty
 generalize hR : ((n == 0) && (ty == 0) && isName name && decide ((a.length : Int) ≤ 4) && ((l.length : Int) == 0)) = R at *
 have HR := Hd hR
 generalize hFA : frmL a = FA
 have HFA := Hd hFA
 have hmm := @run_makeMap Tryz.prog
 clear hB hb1 hl ha hm hR hFA ih hp hkids h1 hnm hty
 go_enter Tryz.func63, Tryz.ntmps63
 go_wp2_with (fail)
 clear q0 q1 q2 q3 q4 q5 q6 eW
 go_loopw [4, 10] (fun _ i ws => ∃ (k : Nat) (wo : World), k ≤ a.length ∧ i = .int .i64 k ∧ wo = ws ∧ Hid (Below W1.heap.size W1 wo) ∧ Hid (∀ j (hj : j < a.length), j < k → frmE a[j] = true)) (fun _ i _ => a.length - (intOf i).toNat)
 case atStart => exact ⟨0, _, Nat.zero_le _, rfl, rfl, Below.refl _ _, fun j _ h => absurd h (by omega)⟩
 case round =>
  obtain ⟨k, wo, hk, rfl, rfl, HB, HA⟩ := hrel
  by_cases hlt : k < a.length
  · obtain ⟨pl', cl', pa', ca', hy, g0, g1, g2, g3, g4, g5, g6⟩ := HKD.out wo HB.out k hlt
    obtain rfl := HP.out (by omega)
    have hki : (k : Int) < (a.length : Int) := by omega
    have hk0 : (0 : Int) ≤ (k : Int) := by omega
    have hkm : (k : Int) + 1 ≤ 9223372036854775807 := by omega
    have HC0 := Hd (HIH.out k hlt)
    have HAT : Hid (frmE a[k] = false → frmL a = false) := fun h => frmL_at hlt h
    have HAN : Hid (frmE a[k] = true → ∀ j (hj : j < a.length), j < k + 1 → frmE a[j] = true) := fun h j h1 h3 => by
     rcases Nat.lt_or_ge j k with h4 | h4
     · exact HA.out j h1 h4
     · obtain rfl : j = k := by omega
       exact h
    have HLT := Hd hlt
    generalize a[k] = y at *
    obtain ⟨W2, eW2⟩ : ∃ W2, wo.alloc (.cells #[.int .i64 y.kind, .int .i64 y.at_, .int .i64 y.num, .int .i64 y.ty, .string y.name, .slice pl' y.lab.length cl', .slice pa' y.kids.length ca'] 26) = W2 := ⟨_, rfl⟩
    have hb2 : Below wo.heap.size wo W2 := by rw [← eW2]; exact (Below.refl _ _).alloc (Nat.le_refl _) _
    have hB2 : Blk W2 wo.heap.size (exC y (.slice pl' y.lab.length cl') (.slice pa' y.kids.length ca')) 26 := by rw [← eW2]; exact Blk.new _ _ _
    have HB2 := Hd (HB.out.trans (hb2.mono HB.out.size))
    have HC := Hd (HC0.out W2 _ (HML.out W2 HB2.out) (hy.stays (keeps_of_below hb2)))
    obtain ⟨c0, c1, c2, c3, c4, c5, c6⟩ := hB2.cells7
    clear hb2 hB2 hy hk hlt HC0
    cases hs : frmE y with
    | true =>
      have HN := Hd (HAN.out hs)
      rw [hs] at HC
      clear hs HAT HAN
      go_wp2_with (fail)
      refine HC.out.mono ?_
      rintro e w3 ⟨rfl, hb3⟩
      have HB3 := Hd (HB2.out.trans (hb3.mono HB2.out.size))
      clear hb3
      go_wp2_with (fail)
      go_roundw
      case rel => exact ⟨k + 1, _, by have h1 := HLT.out; omega, by go_num, rfl, HB3.out, HN.out⟩
      case measure => have h1 := HLT.out; simp [intOf]; omega
    | false =>
      have HN := Hd (HAT.out hs)
      rw [hs] at HC
      clear hs HAT HAN
      go_wp2_with (fail)
      refine HC.out.mono ?_
      rintro e w3 ⟨rfl, hb3⟩
      have HB3 := Hd (HB2.out.trans (hb3.mono HB2.out.size))
      clear hb3
      go_wp2_with (fail)
      go_ret
      exact ⟨by rw [← HFA.out, HN.out]; rfl, HBW.out.trans (HB3.out.mono HBW.out.size)⟩
  · have hki : ¬ (k : Int) < (a.length : Int) := by omega
    have HALL : Hid (frmL a = true) := frmL_all fun j hj => HA.out j hj (by omega)
    have HBz : Hid (Below W1.heap.size W1 wo) := Hd HB.out
    obtain ⟨q0, q1, q2, q3, q4, q5, q6⟩ := HQ.out wo HBz.out
    generalize hfit : formLR l = fl at *
    generalize hnam : isName name = nm at *
    generalize hlev : levelT name = lv at *
    have HL2 : Hid (levelT name = lv) := hlev
    have HN2 : Hid (isName name = nm) := hnam
    clear hfit hnam hlev hlt hk
    cases nm
    all_goals (
     go_wp2_with (first
      | (go_at_call 26; refine (levelOf_calls name _ HNM.out).mono ?_; rintro e w2 ⟨rfl, hb2⟩; replace HBz := Hd (HBz.out.trans (hb2.mono HBz.out.size)); clear hb2; clear q0 q1 q2 q3 q4 q5 q6; obtain ⟨q0, q1, q2, q3, q4, q5, q6⟩ := HQ.out _ HBz.out; rw [HL2.out])
      | (go_at_call 96; refine (refNameM_calls name _ HNM.out (HML.out _ HBz.out)).mono ?_; rintro e w3 ⟨rfl, hb3⟩; replace HBz := Hd (HBz.out.trans (hb3.mono HBz.out.size)); clear hb3; clear q0 q1 q2 q3 q4 q5 q6; obtain ⟨q0, q1, q2, q3, q4, q5, q6⟩ := HQ.out _ HBz.out; rw [HN2.out])
      | (go_at_call 97; refine (HFI.out _ HBz.out).mono ?_; rintro e w4 ⟨rfl, hb4⟩; replace HBz := Hd (HBz.out.trans (hb4.mono HBz.out.size)); clear hb4; clear q0 q1 q2 q3 q4 q5 q6; obtain ⟨q0, q1, q2, q3, q4, q5, q6⟩ := HQ.out _ HBz.out)))
    all_goals (
     go_ret
     refine ⟨ret_bool ?_, HBW.out.trans (HBz.out.mono HBW.out.size)⟩
     first
      | (rw [← HR.out, ← HFA.out, HALL.out]; done)
      | (rw [← HR.out, ← HFA.out, HALL.out]; simp [txt_beq, e_list, minus_list, not_list, *]; done)
      | (rw [← HR.out, ← HFA.out, HALL.out]; simp [txt_beq, e_list, minus_list, not_list, *]; intros; first | (exfalso; omega) | (rw [Bool.eq_iff_iff]; simp; done) | (rw [Bool.eq_iff_iff]; simp [*]; done) | ((try constructor) <;> intros <;> omega)))
theorem frm_5 (at_ n ty : Int) (name : Txt) (l : Lab) (a : List Ex) (vl va : Value) (w : World) (hl : Lbl w l vl) (ha : Exs w a va) (hm : MaxL w) (hnm : okTxt name) (hty : (Lit.int .i64 ty).wf = true)
 (ih : ∀ (k : Nat) (h : k < a.length) (W : World) (v : Value), MaxL W → ExIs W a[k] v → Calls Tryz.prog 63 #[v] W fun e w' => e = .returned (.bool (frmE a[k])) ∧ Below W.heap.size W w') :
 Calls Tryz.prog 63 #[.agg #[.int .i64 5, .int .i64 at_, .int .i64 n, .int .i64 ty, .string name, vl, va]] w fun e w' =>
  e = .returned (.bool (frmL a && ((n == 0) && (ty == 0) && (name == ⟨#[]⟩) && ((a.length : Int) == 1) && formLR l))) ∧ Below w.heap.size w w' := by
 obtain ⟨pl, cl, rfl, h1⟩ := hl
 have hl : Lbl w l (.slice pl l.length cl) := ⟨pl, cl, rfl, h1⟩
 obtain ⟨b, o, c, p, rfl, hmax, hp, hkids⟩ := ha.at
 obtain ⟨W1, eW⟩ : ∃ W1, w.alloc (.cells #[.int .i64 5, .int .i64 at_, .int .i64 n, .int .i64 ty, .string name, .slice pl l.length cl, .slice p a.length c] 26) = W1 := ⟨_, rfl⟩
 have hb1 : Below w.heap.size w W1 := by rw [← eW]; exact (Below.refl _ _).alloc (Nat.le_refl _) _
 have hB : Blk W1 w.heap.size [.int .i64 5, .int .i64 at_, .int .i64 n, .int .i64 ty, .string name, .slice pl l.length cl, .slice p a.length c] 26 := by rw [← eW]; exact Blk.new _ _ _
 have HQ : Hid (∀ W, Below W1.heap.size W1 W → W.cell? ⟨w.heap.size, 0, none⟩ = some (.int .i64 5) ∧ W.cell? ⟨w.heap.size, 1, none⟩ = some (.int .i64 at_) ∧ W.cell? ⟨w.heap.size, 2, none⟩ = some (.int .i64 n) ∧ W.cell? ⟨w.heap.size, 3, none⟩ = some (.int .i64 ty) ∧ W.cell? ⟨w.heap.size, 4, none⟩ = some (.string name) ∧ W.cell? ⟨w.heap.size, 5, none⟩ = some (.slice pl l.length cl) ∧ W.cell? ⟨w.heap.size, 6, none⟩ = some (.slice p a.length c)) := fun W hb => (hB.below hb).cells7
 have HML : Hid (∀ W, Below W1.heap.size W1 W → MaxL W) := fun W hb => (hm.below hb1).below hb
 have HFI : Hid (∀ W, Below W1.heap.size W1 W → Calls Tryz.prog 97 #[.slice pl l.length cl] W fun e w' => e = .returned (.bool (formLR l)) ∧ Below W.heap.size W w') := fun W hb => formLabel_calls l _ W (hl.stays (keeps_of_below (hb1.trans (hb.mono hb1.size)))) ((hm.below hb1).below hb)
 have HKD : Hid (∀ W, Below W1.heap.size W1 W → ∀ (i : Nat) (hi : i < a.length), ∃ pl cl pa ca, ExIs W a[i] (.agg #[.int .i64 a[i].kind, .int .i64 a[i].at_, .int .i64 a[i].num, .int .i64 a[i].ty, .string a[i].name, .slice pl a[i].lab.length cl, .slice pa a[i].kids.length ca]) ∧
  W.cell? ⟨b, o + i * 7, none⟩ = some (.int .i64 a[i].kind) ∧ W.cell? ⟨b, o + i * 7 + 1, none⟩ = some (.int .i64 a[i].at_) ∧ W.cell? ⟨b, o + i * 7 + 2, none⟩ = some (.int .i64 a[i].num) ∧ W.cell? ⟨b, o + i * 7 + 3, none⟩ = some (.int .i64 a[i].ty) ∧
  W.cell? ⟨b, o + i * 7 + 4, none⟩ = some (.string a[i].name) ∧ W.cell? ⟨b, o + i * 7 + 5, none⟩ = some (.slice pl a[i].lab.length cl) ∧ W.cell? ⟨b, o + i * 7 + 6, none⟩ = some (.slice pa a[i].kids.length ca)) := fun W h i hi => by
  have hk := (keeps_of_below hb1).trans (keeps_of_below h)
  obtain ⟨pl, cl, pa, ca, g1, g2, g3, g4, g5, g6, g7, g8, g9⟩ := hkids i hi
  exact ⟨pl, cl, pa, ca, ⟨_, _, rfl, g1.stays hk, g2.stays hk⟩, hk.2 _ _ _ g3, hk.2 _ _ _ g4, hk.2 _ _ _ g5, hk.2 _ _ _ g6, hk.2 _ _ _ g7, hk.2 _ _ _ g8, hk.2 _ _ _ g9⟩
 obtain ⟨q0, q1, q2, q3, q4, q5, q6⟩ := hB.cells7
 have HBW := Hd hb1
 have HIH := Hd ih
 have HP := Hd hp
 have HNM := Hd hnm
 have HTY := Hd hty
 generalize hR : ((n == 0) && (ty == 0) && (name == ⟨#[]⟩) && ((a.length : Int) == 1) && formLR l) = R at *
 have HR := Hd hR
 generalize hFA : frmL a = FA
 have HFA := Hd hFA
 have hmm := @run_makeMap Tryz.prog
 clear hB hb1 hl ha hm hR hFA ih hp hkids h1 hnm hty
 go_enter Tryz.func63, Tryz.ntmps63
 go_wp2_with (fail)
 clear q0 q1 q2 q3 q4 q5 q6 eW
 go_loopw [4, 10] (fun _ i ws => ∃ (k : Nat) (wo : World), k ≤ a.length ∧ i = .int .i64 k ∧ wo = ws ∧ Hid (Below W1.heap.size W1 wo) ∧ Hid (∀ j (hj : j < a.length), j < k → frmE a[j] = true)) (fun _ i _ => a.length - (intOf i).toNat)
 case atStart => exact ⟨0, _, Nat.zero_le _, rfl, rfl, Below.refl _ _, fun j _ h => absurd h (by omega)⟩
 case round =>
  obtain ⟨k, wo, hk, rfl, rfl, HB, HA⟩ := hrel
  by_cases hlt : k < a.length
  · obtain ⟨pl', cl', pa', ca', hy, g0, g1, g2, g3, g4, g5, g6⟩ := HKD.out wo HB.out k hlt
    obtain rfl := HP.out (by omega)
    have hki : (k : Int) < (a.length : Int) := by omega
    have hk0 : (0 : Int) ≤ (k : Int) := by omega
    have hkm : (k : Int) + 1 ≤ 9223372036854775807 := by omega
    have HC0 := Hd (HIH.out k hlt)
    have HAT : Hid (frmE a[k] = false → frmL a = false) := fun h => frmL_at hlt h
    have HAN : Hid (frmE a[k] = true → ∀ j (hj : j < a.length), j < k + 1 → frmE a[j] = true) := fun h j h1 h3 => by
     rcases Nat.lt_or_ge j k with h4 | h4
     · exact HA.out j h1 h4
     · obtain rfl : j = k := by omega
       exact h
    have HLT := Hd hlt
    generalize a[k] = y at *
    obtain ⟨W2, eW2⟩ : ∃ W2, wo.alloc (.cells #[.int .i64 y.kind, .int .i64 y.at_, .int .i64 y.num, .int .i64 y.ty, .string y.name, .slice pl' y.lab.length cl', .slice pa' y.kids.length ca'] 26) = W2 := ⟨_, rfl⟩
    have hb2 : Below wo.heap.size wo W2 := by rw [← eW2]; exact (Below.refl _ _).alloc (Nat.le_refl _) _
    have hB2 : Blk W2 wo.heap.size (exC y (.slice pl' y.lab.length cl') (.slice pa' y.kids.length ca')) 26 := by rw [← eW2]; exact Blk.new _ _ _
    have HB2 := Hd (HB.out.trans (hb2.mono HB.out.size))
    have HC := Hd (HC0.out W2 _ (HML.out W2 HB2.out) (hy.stays (keeps_of_below hb2)))
    obtain ⟨c0, c1, c2, c3, c4, c5, c6⟩ := hB2.cells7
    clear hb2 hB2 hy hk hlt HC0
    cases hs : frmE y with
    | true =>
      have HN := Hd (HAN.out hs)
      rw [hs] at HC
      clear hs HAT HAN
      go_wp2_with (fail)
      refine HC.out.mono ?_
      rintro e w3 ⟨rfl, hb3⟩
      have HB3 := Hd (HB2.out.trans (hb3.mono HB2.out.size))
      clear hb3
      go_wp2_with (fail)
      go_roundw
      case rel => exact ⟨k + 1, _, by have h1 := HLT.out; omega, by go_num, rfl, HB3.out, HN.out⟩
      case measure => have h1 := HLT.out; simp [intOf]; omega
    | false =>
      have HN := Hd (HAT.out hs)
      rw [hs] at HC
      clear hs HAT HAN
      go_wp2_with (fail)
      refine HC.out.mono ?_
      rintro e w3 ⟨rfl, hb3⟩
      have HB3 := Hd (HB2.out.trans (hb3.mono HB2.out.size))
      clear hb3
      go_wp2_with (fail)
      go_ret
      exact ⟨by rw [← HFA.out, HN.out]; rfl, HBW.out.trans (HB3.out.mono HBW.out.size)⟩
  · have hki : ¬ (k : Int) < (a.length : Int) := by omega
    have HALL : Hid (frmL a = true) := frmL_all fun j hj => HA.out j hj (by omega)
    have HBz : Hid (Below W1.heap.size W1 wo) := Hd HB.out
    obtain ⟨q0, q1, q2, q3, q4, q5, q6⟩ := HQ.out wo HBz.out
    generalize hfit : formLR l = fl at *
    generalize hnam : isName name = nm at *
    generalize hlev : levelT name = lv at *
    have HL2 : Hid (levelT name = lv) := hlev
    have HN2 : Hid (isName name = nm) := hnam
    clear hfit hnam hlev hlt hk
    cases fl
    all_goals (
     go_wp2_with (first
      | (go_at_call 26; refine (levelOf_calls name _ HNM.out).mono ?_; rintro e w2 ⟨rfl, hb2⟩; replace HBz := Hd (HBz.out.trans (hb2.mono HBz.out.size)); clear hb2; clear q0 q1 q2 q3 q4 q5 q6; obtain ⟨q0, q1, q2, q3, q4, q5, q6⟩ := HQ.out _ HBz.out; rw [HL2.out])
      | (go_at_call 96; refine (refNameM_calls name _ HNM.out (HML.out _ HBz.out)).mono ?_; rintro e w3 ⟨rfl, hb3⟩; replace HBz := Hd (HBz.out.trans (hb3.mono HBz.out.size)); clear hb3; clear q0 q1 q2 q3 q4 q5 q6; obtain ⟨q0, q1, q2, q3, q4, q5, q6⟩ := HQ.out _ HBz.out; rw [HN2.out])
      | (go_at_call 97; refine (HFI.out _ HBz.out).mono ?_; rintro e w4 ⟨rfl, hb4⟩; replace HBz := Hd (HBz.out.trans (hb4.mono HBz.out.size)); clear hb4; clear q0 q1 q2 q3 q4 q5 q6; obtain ⟨q0, q1, q2, q3, q4, q5, q6⟩ := HQ.out _ HBz.out)))
    all_goals (
     go_ret
     refine ⟨ret_bool ?_, HBW.out.trans (HBz.out.mono HBW.out.size)⟩
     first
      | (rw [← HR.out, ← HFA.out, HALL.out]; done)
      | (rw [← HR.out, ← HFA.out, HALL.out]; simp [txt_beq, e_list, minus_list, not_list, *]; done)
      | (rw [← HR.out, ← HFA.out, HALL.out]; simp [txt_beq, e_list, minus_list, not_list, *]; intros; first | (exfalso; omega) | (rw [Bool.eq_iff_iff]; simp; done) | (rw [Bool.eq_iff_iff]; simp [*]; done) | ((try constructor) <;> intros <;> omega)))
theorem frm_0 (at_ n ty : Int) (name : Txt) (l : Lab) (a : List Ex) (vl va : Value) (w : World) (kd : Int) (hk : ¬ kd = 1 ∧ ¬ kd = 2 ∧ ¬ kd = 3 ∧ ¬ kd = 4 ∧ ¬ kd = 5) (hl : Lbl w l vl) (ha : Exs w a va) (hm : MaxL w) (hnm : okTxt name) (hty : (Lit.int .i64 ty).wf = true)
 (ih : ∀ (k : Nat) (h : k < a.length) (W : World) (v : Value), MaxL W → ExIs W a[k] v → Calls Tryz.prog 63 #[v] W fun e w' => e = .returned (.bool (frmE a[k])) ∧ Below W.heap.size W w') :
 Calls Tryz.prog 63 #[.agg #[.int .i64 kd, .int .i64 at_, .int .i64 n, .int .i64 ty, .string name, vl, va]] w fun e w' =>
  e = .returned (.bool (frmL a && (false))) ∧ Below w.heap.size w w' := by
 obtain ⟨pl, cl, rfl, h1⟩ := hl
 have hl : Lbl w l (.slice pl l.length cl) := ⟨pl, cl, rfl, h1⟩
 obtain ⟨b, o, c, p, rfl, hmax, hp, hkids⟩ := ha.at
 obtain ⟨W1, eW⟩ : ∃ W1, w.alloc (.cells #[.int .i64 kd, .int .i64 at_, .int .i64 n, .int .i64 ty, .string name, .slice pl l.length cl, .slice p a.length c] 26) = W1 := ⟨_, rfl⟩
 have hb1 : Below w.heap.size w W1 := by rw [← eW]; exact (Below.refl _ _).alloc (Nat.le_refl _) _
 have hB : Blk W1 w.heap.size [.int .i64 kd, .int .i64 at_, .int .i64 n, .int .i64 ty, .string name, .slice pl l.length cl, .slice p a.length c] 26 := by rw [← eW]; exact Blk.new _ _ _
 have HQ : Hid (∀ W, Below W1.heap.size W1 W → W.cell? ⟨w.heap.size, 0, none⟩ = some (.int .i64 kd) ∧ W.cell? ⟨w.heap.size, 1, none⟩ = some (.int .i64 at_) ∧ W.cell? ⟨w.heap.size, 2, none⟩ = some (.int .i64 n) ∧ W.cell? ⟨w.heap.size, 3, none⟩ = some (.int .i64 ty) ∧ W.cell? ⟨w.heap.size, 4, none⟩ = some (.string name) ∧ W.cell? ⟨w.heap.size, 5, none⟩ = some (.slice pl l.length cl) ∧ W.cell? ⟨w.heap.size, 6, none⟩ = some (.slice p a.length c)) := fun W hb => (hB.below hb).cells7
 have HML : Hid (∀ W, Below W1.heap.size W1 W → MaxL W) := fun W hb => (hm.below hb1).below hb
 have HFI : Hid (∀ W, Below W1.heap.size W1 W → Calls Tryz.prog 97 #[.slice pl l.length cl] W fun e w' => e = .returned (.bool (formLR l)) ∧ Below W.heap.size W w') := fun W hb => formLabel_calls l _ W (hl.stays (keeps_of_below (hb1.trans (hb.mono hb1.size)))) ((hm.below hb1).below hb)
 have HKD : Hid (∀ W, Below W1.heap.size W1 W → ∀ (i : Nat) (hi : i < a.length), ∃ pl cl pa ca, ExIs W a[i] (.agg #[.int .i64 a[i].kind, .int .i64 a[i].at_, .int .i64 a[i].num, .int .i64 a[i].ty, .string a[i].name, .slice pl a[i].lab.length cl, .slice pa a[i].kids.length ca]) ∧
  W.cell? ⟨b, o + i * 7, none⟩ = some (.int .i64 a[i].kind) ∧ W.cell? ⟨b, o + i * 7 + 1, none⟩ = some (.int .i64 a[i].at_) ∧ W.cell? ⟨b, o + i * 7 + 2, none⟩ = some (.int .i64 a[i].num) ∧ W.cell? ⟨b, o + i * 7 + 3, none⟩ = some (.int .i64 a[i].ty) ∧
  W.cell? ⟨b, o + i * 7 + 4, none⟩ = some (.string a[i].name) ∧ W.cell? ⟨b, o + i * 7 + 5, none⟩ = some (.slice pl a[i].lab.length cl) ∧ W.cell? ⟨b, o + i * 7 + 6, none⟩ = some (.slice pa a[i].kids.length ca)) := fun W h i hi => by
  have hk := (keeps_of_below hb1).trans (keeps_of_below h)
  obtain ⟨pl, cl, pa, ca, g1, g2, g3, g4, g5, g6, g7, g8, g9⟩ := hkids i hi
  exact ⟨pl, cl, pa, ca, ⟨_, _, rfl, g1.stays hk, g2.stays hk⟩, hk.2 _ _ _ g3, hk.2 _ _ _ g4, hk.2 _ _ _ g5, hk.2 _ _ _ g6, hk.2 _ _ _ g7, hk.2 _ _ _ g8, hk.2 _ _ _ g9⟩
 obtain ⟨q0, q1, q2, q3, q4, q5, q6⟩ := hB.cells7
 have HBW := Hd hb1
 have HIH := Hd ih
 have HP := Hd hp
 have HNM := Hd hnm
 have HTY := Hd hty
 obtain ⟨k1, k2, k3, k4, k5⟩ := hk
 generalize hR : (false) = R at *
 have HR := Hd hR
 generalize hFA : frmL a = FA
 have HFA := Hd hFA
 have hmm := @run_makeMap Tryz.prog
 clear hB hb1 hl ha hm hR hFA ih hp hkids h1 hnm hty
 go_enter Tryz.func63, Tryz.ntmps63
 go_wp2_with (fail)
 clear q0 q1 q2 q3 q4 q5 q6 eW
 go_loopw [4, 10] (fun _ i ws => ∃ (k : Nat) (wo : World), k ≤ a.length ∧ i = .int .i64 k ∧ wo = ws ∧ Hid (Below W1.heap.size W1 wo) ∧ Hid (∀ j (hj : j < a.length), j < k → frmE a[j] = true)) (fun _ i _ => a.length - (intOf i).toNat)
 case atStart => exact ⟨0, _, Nat.zero_le _, rfl, rfl, Below.refl _ _, fun j _ h => absurd h (by omega)⟩
 case round =>
  obtain ⟨k, wo, hk, rfl, rfl, HB, HA⟩ := hrel
  by_cases hlt : k < a.length
  · obtain ⟨pl', cl', pa', ca', hy, g0, g1, g2, g3, g4, g5, g6⟩ := HKD.out wo HB.out k hlt
    obtain rfl := HP.out (by omega)
    have hki : (k : Int) < (a.length : Int) := by omega
    have hk0 : (0 : Int) ≤ (k : Int) := by omega
    have hkm : (k : Int) + 1 ≤ 9223372036854775807 := by omega
    have HC0 := Hd (HIH.out k hlt)
    have HAT : Hid (frmE a[k] = false → frmL a = false) := fun h => frmL_at hlt h
    have HAN : Hid (frmE a[k] = true → ∀ j (hj : j < a.length), j < k + 1 → frmE a[j] = true) := fun h j h1 h3 => by
     rcases Nat.lt_or_ge j k with h4 | h4
     · exact HA.out j h1 h4
     · obtain rfl : j = k := by omega
       exact h
    have HLT := Hd hlt
    generalize a[k] = y at *
    obtain ⟨W2, eW2⟩ : ∃ W2, wo.alloc (.cells #[.int .i64 y.kind, .int .i64 y.at_, .int .i64 y.num, .int .i64 y.ty, .string y.name, .slice pl' y.lab.length cl', .slice pa' y.kids.length ca'] 26) = W2 := ⟨_, rfl⟩
    have hb2 : Below wo.heap.size wo W2 := by rw [← eW2]; exact (Below.refl _ _).alloc (Nat.le_refl _) _
    have hB2 : Blk W2 wo.heap.size (exC y (.slice pl' y.lab.length cl') (.slice pa' y.kids.length ca')) 26 := by rw [← eW2]; exact Blk.new _ _ _
    have HB2 := Hd (HB.out.trans (hb2.mono HB.out.size))
    have HC := Hd (HC0.out W2 _ (HML.out W2 HB2.out) (hy.stays (keeps_of_below hb2)))
    obtain ⟨c0, c1, c2, c3, c4, c5, c6⟩ := hB2.cells7
    clear hb2 hB2 hy hk hlt HC0
    cases hs : frmE y with
    | true =>
      have HN := Hd (HAN.out hs)
      rw [hs] at HC
      clear hs HAT HAN
      go_wp2_with (fail)
      refine HC.out.mono ?_
      rintro e w3 ⟨rfl, hb3⟩
      have HB3 := Hd (HB2.out.trans (hb3.mono HB2.out.size))
      clear hb3
      go_wp2_with (fail)
      go_roundw
      case rel => exact ⟨k + 1, _, by have h1 := HLT.out; omega, by go_num, rfl, HB3.out, HN.out⟩
      case measure => have h1 := HLT.out; simp [intOf]; omega
    | false =>
      have HN := Hd (HAT.out hs)
      rw [hs] at HC
      clear hs HAT HAN
      go_wp2_with (fail)
      refine HC.out.mono ?_
      rintro e w3 ⟨rfl, hb3⟩
      have HB3 := Hd (HB2.out.trans (hb3.mono HB2.out.size))
      clear hb3
      go_wp2_with (fail)
      go_ret
      exact ⟨by rw [← HFA.out, HN.out]; rfl, HBW.out.trans (HB3.out.mono HBW.out.size)⟩
  · have hki : ¬ (k : Int) < (a.length : Int) := by omega
    have HALL : Hid (frmL a = true) := frmL_all fun j hj => HA.out j hj (by omega)
    have HBz : Hid (Below W1.heap.size W1 wo) := Hd HB.out
    obtain ⟨q0, q1, q2, q3, q4, q5, q6⟩ := HQ.out wo HBz.out
    generalize hfit : formLR l = fl at *
    generalize hnam : isName name = nm at *
    generalize hlev : levelT name = lv at *
    have HL2 : Hid (levelT name = lv) := hlev
    have HN2 : Hid (isName name = nm) := hnam
    clear hfit hnam hlev hlt hk
    skip
    all_goals (
     go_wp2_with (first
      | (go_at_call 26; refine (levelOf_calls name _ HNM.out).mono ?_; rintro e w2 ⟨rfl, hb2⟩; replace HBz := Hd (HBz.out.trans (hb2.mono HBz.out.size)); clear hb2; clear q0 q1 q2 q3 q4 q5 q6; obtain ⟨q0, q1, q2, q3, q4, q5, q6⟩ := HQ.out _ HBz.out; rw [HL2.out])
      | (go_at_call 96; refine (refNameM_calls name _ HNM.out (HML.out _ HBz.out)).mono ?_; rintro e w3 ⟨rfl, hb3⟩; replace HBz := Hd (HBz.out.trans (hb3.mono HBz.out.size)); clear hb3; clear q0 q1 q2 q3 q4 q5 q6; obtain ⟨q0, q1, q2, q3, q4, q5, q6⟩ := HQ.out _ HBz.out; rw [HN2.out])
      | (go_at_call 97; refine (HFI.out _ HBz.out).mono ?_; rintro e w4 ⟨rfl, hb4⟩; replace HBz := Hd (HBz.out.trans (hb4.mono HBz.out.size)); clear hb4; clear q0 q1 q2 q3 q4 q5 q6; obtain ⟨q0, q1, q2, q3, q4, q5, q6⟩ := HQ.out _ HBz.out)))
    all_goals (
     go_ret
     refine ⟨ret_bool ?_, HBW.out.trans (HBz.out.mono HBW.out.size)⟩
     first
      | (rw [← HR.out, ← HFA.out, HALL.out]; done)
      | (rw [← HR.out, ← HFA.out, HALL.out]; simp [txt_beq, e_list, minus_list, not_list, *]; done)
      | (rw [← HR.out, ← HFA.out, HALL.out]; simp [txt_beq, e_list, minus_list, not_list, *]; intros; first | (exfalso; omega) | (rw [Bool.eq_iff_iff]; simp; done) | (rw [Bool.eq_iff_iff]; simp [*]; done) | ((try constructor) <;> intros <;> omega)))
end
section
open Go.RowKit Go.Maps
end
section
open Go.RowKit Go.Maps
theorem one_of {α : Type} {l : List α} (h : l.length = 1) : ∃ y, l = [y] := by
 match l, h with
 | [y], _ => exact ⟨y, rfl⟩
theorem two_of {α : Type} {l : List α} (h : l.length = 2) : ∃ y z, l = [y, z] := by
 match l, h with
 | [y, z], _ => exact ⟨y, z, rfl⟩
theorem text_step {x : Ex} {d : Int} (hf : formB x d = true) {W : World} (ht : Tab W) (hpw : Pow W) (hsz : ∀ y ∈ x.kids, ∀ t, (textP y t).size ≤ 413867158356) (hk : ∀ y ∈ x.kids, ∀ t, TextC W y t) (v : Value) (hx : ExIs W x v) (t : Int) :
 Calls Tryz.prog 43 #[v, .int .i64 t] W fun e w' => e = .returned (.string (textP x t)) ∧ Below W.heap.size W w' := by
 have hw := form_ways hf
 obtain ⟨kind, at_, num, ty, name, l, a⟩ := x
 obtain ⟨vl, va, rfl, hl, ha⟩ := hx
 obtain ⟨pl, cl, rfl, hl3⟩ := hl
 obtain ⟨pa, ca, rfl, ha3⟩ := ha
 have hl : Lbl W l (.slice pl l.length cl) := ⟨pl, cl, rfl, hl3⟩
 have ha : Exs W a (.slice pa a.length ca) := ⟨pa, ca, rfl, ha3⟩
 simp only [Ex.kind, Ex.kids, Ex.name, Ex.lab, Ex.num, Ex.ty] at hw hsz hk ⊢
 rcases hw with ⟨rfl, h1, rfl, h2, ⟨rfl, h3, h4⟩ | ⟨rfl, rfl | rfl⟩⟩ | ⟨rfl, h1, h2, h3, h4, h5⟩ | ⟨rfl, ⟨h1, h5⟩ | ⟨h1, h5⟩, h2, h3, h4⟩ | ⟨rfl, h1, h2, h3, h4, h5⟩ | ⟨rfl, h1, h2, h3, h4, h5⟩
 · exact text_num at_ num t _ l a pl cl pa ca W h3 h4 hpw
 · exact text_false at_ t _ l a pl cl pa ca W
 · exact text_true at_ t _ l a pl cl pa ca W
 · exact text_var at_ num ty t _ l a pl cl pa ca W
 · obtain ⟨y, rfl⟩ := one_of h1
   exact text_one at_ num ty t name l pl cl pa ca W y ha (by rcases h5 with rfl | rfl <;> decide) (hsz y (by simp) 6) (hk y (by simp) 6)
 · obtain ⟨y, z, rfl⟩ := two_of h1
   have h2s := levelT_size h5
   by_cases hq : levelT name < t
   · exact text_two_in at_ num ty t name l pl cl pa ca W y z ht hq h5 h2s ha (hsz y (by simp) _) (hsz z (by simp) _) (hk y (by simp) _) (hk z (by simp) _)
   · exact text_two at_ num ty t name l pl cl pa ca W y z ht hq h5 h2s ha (hsz y (by simp) _) (hsz z (by simp) _) (hk y (by simp) _) (hk z (by simp) _)
 · exact text_call at_ num ty t name l a pl cl pa ca W ha h2 (isName_size h1) (fun y hy => hsz y hy 0) (fun y hy => hk y hy 0)
 · obtain ⟨y, rfl⟩ := one_of h1
   exact text_rel at_ num ty t name l pl cl pa ca W y hl ha (hsz y (by simp) 0) (hk y (by simp) 0)
theorem text_calls : ∀ (n : Nat), n ≤ 12 → ∀ (x : Ex), Fm n x → ∀ (w : World) (t : Int), Tab w → Pow w → TextC w x t := by
 intro n
 induction n with
 | zero =>
   intro hn x hf w t ht hp W v hb hx
   exact text_step hf.form (ht.below hb) (hp.below hb) (fun y hy => by rw [hf.none] at hy; cases hy) (fun y hy => by rw [hf.none] at hy; cases hy) v hx t
 | succ n ih =>
   intro hn x hf w t ht hp W v hb hx
   exact text_step hf.form (ht.below hb) (hp.below hb) (fun y hy t => Nat.le_trans (text_size n y t (hf.kids y hy)) (lim_le (by omega))) (fun y hy t => ih (by omega) y (hf.kids y hy) W t (ht.below hb) (hp.below hb)) v hx t
def textE (x : Ex) : Int := if formedS x then 0 else 4
def textS (x : Ex) : Txt := if formedS x then textP x 0 else ⟨#[]⟩
theorem textTop_calls (x : Ex) (v : Value) (w : World) (hx : ExIs w x v) (ht : Tab w) (hp : Pow w) : Calls Tryz.prog 9 #[v] w fun e w' => e = .returned (.tuple #[.string (textS x), .int .i64 (textE x)]) ∧ Below w.heap.size w w' := by
 have hx0 := hx
 obtain ⟨vl, va, rfl, hl, ha⟩ := hx
 obtain ⟨pl, cl, rfl, _⟩ := hl
 obtain ⟨pa, ca, rfl, _⟩ := ha
 obtain ⟨W1, eW⟩ : ∃ W1, w.alloc (.cells #[.int .i64 x.kind, .int .i64 x.at_, .int .i64 x.num, .int .i64 x.ty, .string x.name, .slice pl x.lab.length cl, .slice pa x.kids.length ca] 26) = W1 := ⟨_, rfl⟩
 have hb1 : Below w.heap.size w W1 := by rw [← eW]; exact (Below.refl _ _).alloc (Nat.le_refl _) _
 have hB1 : Blk W1 w.heap.size (exC x (.slice pl x.lab.length cl) (.slice pa x.kids.length ca)) 26 := by rw [← eW]; exact Blk.new _ _ _
 obtain ⟨q0, q1, q2, q3, q4, q5, q6⟩ := hB1.cells7
 have HF := Hd (formed_calls x _ W1 (hx0.stays (keeps_of_below hb1)) (ht.below hb1))
 have HB1 := Hd hb1
 have HBK := Hd hB1
 cases hf : formedS x with
 | true =>
   have HT : Hid (∀ W, Below W1.heap.size W1 W → Calls Tryz.prog 43 #[.agg #[.int .i64 x.kind, .int .i64 x.at_, .int .i64 x.num, .int .i64 x.ty, .string x.name, .slice pl x.lab.length cl, .slice pa x.kids.length ca], .int .i64 0] W fun e w' => e = .returned (.string (textP x 0)) ∧ Below W.heap.size W w') := fun W hb =>
    text_calls 12 (Nat.le_refl _) x hf w 0 ht hp W _ (hb1.trans (hb.mono hb1.size)) (hx0.stays (keeps_of_below (hb1.trans (hb.mono hb1.size))))
   have HR : Hid (textS x = textP x 0 ∧ textE x = 0) := by unfold Hid textS textE; rw [hf]; exact ⟨rfl, rfl⟩
   rw [hf] at HF
   generalize textP x 0 = J at *
   clear hx0 hB1 hb1 ht hp hf
   go_enter Tryz.func9, Tryz.ntmps9
   go_wp2_with (fail)
   refine HF.out.mono ?_
   rintro e w2 ⟨rfl, hb2⟩
   have HT2 := Hd (HT.out w2 hb2)
   clear q0 q1 q2 q3 q4 q5 q6
   obtain ⟨q0, q1, q2, q3, q4, q5, q6⟩ := (HBK.out.below hb2).cells7
   have HB2 := Hd hb2
   clear hb2
   go_wp2_with (fail)
   refine HT2.out.mono ?_
   rintro e w3 ⟨rfl, hb3⟩
   go_wp2_with (fail)
   go_ret2
   exact ⟨by rw [HR.out.1, HR.out.2]; rfl, HB1.out.trans ((HB2.out.trans (hb3.mono HB2.out.size)).mono HB1.out.size)⟩
 | false =>
   have HR : Hid (textS x = ⟨#[]⟩ ∧ textE x = 4) := by unfold Hid textS textE; rw [hf]; exact ⟨rfl, rfl⟩
   rw [hf] at HF
   clear hx0 hB1 hb1 ht hp hf
   go_enter Tryz.func9, Tryz.ntmps9
   go_wp2_with (fail)
   refine HF.out.mono ?_
   rintro e w2 ⟨rfl, hb2⟩
   go_wp2_with (fail)
   go_ret2
   exact ⟨by rw [HR.out.1, HR.out.2]; rfl, HB1.out.trans (hb2.mono HB1.out.size)⟩
end
section
open Go.RowKit
theorem fits_form (l : Lab) : fitsB l = formLR l := by
 unfold fitsB formLR
 have h1 : (printE l == 0) = !longL l := by unfold printE; cases longL l <;> rfl
 have h2 : (fun p : Pol => !isName p.1 || !(!anyBy p.2 fun s => !isName s)) = polBad := by
  funext p
  unfold polBad
  simp
 rw [h1, h2]
theorem form_frmK (x : Ex) (d : Int) : formB x d = (decide (d ≤ 12) && frmK x.kind x.num x.ty x.name x.lab x.kids.length) := by
 unfold formB frmK
 by_cases hd : d ≤ 12
 · simp only [hd, decide_true, Bool.true_and]
   split
   · have ht : ((x.ty == 1 && decide (0 ≤ x.num) && decide (x.num ≤ 999999999)) || (x.ty == 2 && (x.num == 0 || x.num == 1))) = (decide (0 < topV x.ty) && decide (0 ≤ x.num) && decide (x.num ≤ topV x.ty)) := by
      unfold topV
      rw [Bool.eq_iff_iff]
      simp only [Bool.or_eq_true, Bool.and_eq_true, beq_iff_eq, decide_eq_true_eq]
      by_cases h2 : x.ty = 2
      · rw [if_pos h2]; omega
      · rw [if_neg h2]
        by_cases h1 : x.ty = 1
        · rw [if_pos h1]; omega
        · rw [if_neg h1]; omega
     rw [ht]
     rw [Bool.eq_iff_iff]
     simp only [Bool.and_eq_true]
     constructor <;> rintro ⟨_, _⟩ <;> simp_all
   · split
     · rw [Bool.eq_iff_iff]
       simp only [Bool.and_eq_true]
       constructor <;> rintro ⟨_, _⟩ <;> simp_all
     · split
       · rw [Bool.eq_iff_iff]
         simp only [Bool.and_eq_true, Bool.or_eq_true, Bool.not_eq_true', decide_eq_false_iff_not, decide_eq_true_eq, beq_iff_eq]
         constructor
         · rintro ⟨⟨⟨h1, h2⟩, h3⟩, h4⟩
           exact ⟨⟨⟨h2, h3⟩, by omega⟩, by rcases h1 with ⟨a, b | b⟩ | h1; exact .inr ⟨a, .inr b⟩; exact .inr ⟨a, .inl b⟩; exact .inl h1⟩
         · rintro ⟨⟨⟨h2, h3⟩, h4⟩, h1⟩
           exact ⟨⟨⟨by rcases h1 with h1 | ⟨a, b | b⟩; exact .inr h1; exact .inl ⟨a, .inr b⟩; exact .inl ⟨a, .inl b⟩, h2⟩, h3⟩, by omega⟩
       · split
         · rw [Bool.eq_iff_iff]
           simp only [Bool.and_eq_true]
           constructor <;> rintro ⟨_, _⟩ <;> simp_all
         · split
           · rw [fits_form, Bool.eq_iff_iff]
             simp only [Bool.and_eq_true]
             constructor <;> rintro ⟨_, _⟩ <;> simp_all
           · rfl
 · have hf : decide (d ≤ 12) = false := by simp [hd]
   simp only [hf, Bool.false_and]
   split
   · rfl
   · split
     · rfl
     · split
       · rfl
       · split
         · rfl
         · split <;> rfl
theorem frmE_eq (x : Ex) : frmE x = (frmL x.kids && frmK x.kind x.num x.ty x.name x.lab x.kids.length) := by
 cases x
 rw [frmE]
 rfl
theorem frmL_mem : ∀ {l : List Ex}, frmL l = true ↔ ∀ y ∈ l, frmE y = true
 | [] => by simp [frmL]
 | x :: r => by
   rw [frmL, Bool.and_eq_true, frmL_mem (l := r)]
   simp
theorem deepL_mem {n : Nat} : ∀ {l : List Ex}, deepL l ≤ n ↔ ∀ y ∈ l, deepE y ≤ n
 | [] => by simp [deepL]
 | x :: r => by
   rw [deepL, Nat.max_le, deepL_mem (l := r)]
   simp
theorem kidsS_unit {f : Unit → Ex → Bool × Unit} : ∀ {l : List Ex}, (kidsS f () l).1 = true ↔ ∀ y ∈ l, (f () y).1 = true
 | [] => by simp [kidsS]
 | x :: r => by
   simp only [kidsS]
   split
   · rename_i h
     rw [show (f () x).2 = () from rfl, kidsS_unit (l := r)]
     simp [h]
   · rename_i h
     simp [h]
theorem fm_iff : ∀ (n : Nat) (x : Ex), Fm n x ↔ deepE x ≤ n ∧ frmE x = true := by
 intro n
 induction n with
 | zero =>
   intro x
   constructor
   · intro h
     have := h.form
     rw [form_frmK] at this
     simp at this
   · rintro ⟨h, _⟩
     rw [deepE_eq] at h
     omega
 | succ n ih =>
   intro x
   unfold Fm
   rw [walkS_eq]
   unfold finS
   rw [deepE_eq, frmE_eq]
   have h1 : (kidsS (subS visF (n + 1)) () x.kids).1 = true ↔ deepL x.kids ≤ n ∧ frmL x.kids = true := by
    rw [kidsS_unit, deepL_mem, frmL_mem]
    constructor
    · intro h
      exact ⟨fun y hy => ((ih y).1 (h y hy)).1, fun y hy => ((ih y).1 (h y hy)).2⟩
    · rintro ⟨g, h⟩ y hy
      exact (ih y).2 ⟨g y hy, h y hy⟩
   cases hk : (kidsS (subS visF (n + 1)) () x.kids).1 with
   | true =>
     obtain ⟨g1, g2⟩ := h1.1 hk
     simp only [if_true]
     show formB x _ = true ↔ _
     rw [form_frmK, g2]
     have hd : decide ((13 : Int) - ((n + 1 : Nat) : Int) ≤ 12) = true := by simp; omega
     rw [hd]
     simp only [Bool.true_and]
     constructor
     · intro h; exact ⟨by omega, h⟩
     · rintro ⟨_, h⟩; exact h
   | false =>
     simp only [Bool.false_eq_true, if_false]
     constructor
     · intro h; exact absurd h (by simp)
     · rintro ⟨g1, g2⟩
       rw [Bool.and_eq_true] at g2
       rw [h1.2 ⟨by omega, g2.1⟩] at hk
       cases hk
theorem formedS_eq (x : Ex) : formedS x = (decide (deepE x ≤ 12) && frmE x) := by
 rw [Bool.eq_iff_iff, formedS_fm, fm_iff]
 simp
end
section
open Go.RowKit Go.Maps
theorem frm_step {x : Ex} (hx : OkEx x) {w : World} {v : Value} (hv : ExIs w x v) (hm : MaxL w)
 (ih : ∀ (k : Nat) (h : k < x.kids.length) (W : World) (v : Value), MaxL W → ExIs W x.kids[k] v → Calls Tryz.prog 63 #[v] W fun e w' => e = .returned (.bool (frmE x.kids[k])) ∧ Below W.heap.size W w') :
 Calls Tryz.prog 63 #[v] w fun e w' => e = .returned (.bool (frmE x)) ∧ Below w.heap.size w w' := by
 obtain ⟨kind, at_, num, ty, name, l, a⟩ := x
 obtain ⟨vl, va, rfl, hl, ha⟩ := hv
 have hnm : okTxt name := by cases hx; assumption
 have hty : (Lit.int .i64 ty).wf = true := by
  have : okNum ty := by cases hx; assumption
  unfold okNum at this
  show (decide (IntKind.i64.min ≤ ty) && decide (ty ≤ IntKind.i64.max)) = true
  have e1 : IntKind.i64.min = -9223372036854775808 := rfl
  have e2 : IntKind.i64.max = 9223372036854775807 := rfl
  rw [e1, e2]
  simp [this]
 rw [frmE]
 unfold frmK
 by_cases h1 : kind = 1
 · subst h1
   exact frm_1 at_ num ty name l a vl va w hl ha hm hnm hty ih
 rw [if_neg h1]
 by_cases h2 : kind = 2
 · subst h2
   exact frm_2 at_ num ty name l a vl va w hl ha hm hnm hty ih
 rw [if_neg h2]
 by_cases h3 : kind = 3
 · subst h3
   exact frm_3 at_ num ty name l a vl va w hl ha hm hnm hty ih
 rw [if_neg h3]
 by_cases h4 : kind = 4
 · subst h4
   exact frm_4 at_ num ty name l a vl va w hl ha hm hnm hty ih
 rw [if_neg h4]
 by_cases h5 : kind = 5
 · subst h5
   exact frm_5 at_ num ty name l a vl va w hl ha hm hnm hty ih
 rw [if_neg h5]
 exact frm_0 at_ num ty name l a vl va w kind ⟨h1, h2, h3, h4, h5⟩ hl ha hm hnm hty ih
theorem OkEx.kids {x : Ex} (h : OkEx x) : ∀ y ∈ x.kids, OkEx y := by
 cases h
 assumption
theorem frm_deep : ∀ (n : Nat) (x : Ex) (v : Value) (w : World), deepE x ≤ n → OkEx x → MaxL w → ExIs w x v → Calls Tryz.prog 63 #[v] w fun e w' => e = .returned (.bool (frmE x)) ∧ Below w.heap.size w w' := by
 intro n
 induction n with
 | zero => intro x v w h; rw [deepE_eq] at h; omega
 | succ n ih =>
   intro x v w h hx hm hv
   refine frm_step hx hv hm fun k hk W v hmW hvW => ih _ v W ?_ (hx.kids _ (List.getElem_mem hk)) hmW hvW
   have := deepL_at hk
   rw [deepE_eq] at h
   omega
theorem frm_calls (x : Ex) (v : Value) (w : World) (hx : OkEx x) (hm : MaxL w) (hv : ExIs w x v) : Calls Tryz.prog 63 #[v] w fun e w' => e = .returned (.bool (frmE x)) ∧ Below w.heap.size w w' := frm_deep _ x v w (Nat.le_refl _) hx hm hv
theorem isFormed_calls (x : Ex) (v : Value) (w : World) (hx : OkEx x) (hn : nodesE x ≤ 1048576) (hm : MaxL w) (hv : ExIs w x v) : Calls Tryz.prog 24 #[v] w fun e w' => e = .returned (.bool (formedS x)) ∧ Below w.heap.size w w' := by
 have HR : Hid (formedS x = (decide (deepE x ≤ 12) && frmE x)) := formedS_eq x
 have hv0 := hv
 obtain ⟨vl, va, rfl, hl, ha⟩ := hv
 obtain ⟨pl, cl, rfl, _⟩ := hl
 obtain ⟨pa, ca, rfl, _⟩ := ha
 obtain ⟨W1, eW⟩ : ∃ W1, w.alloc (.cells #[.int .i64 x.kind, .int .i64 x.at_, .int .i64 x.num, .int .i64 x.ty, .string x.name, .slice pl x.lab.length cl, .slice pa x.kids.length ca] 26) = W1 := ⟨_, rfl⟩
 have hb1 : Below w.heap.size w W1 := by rw [← eW]; exact (Below.refl _ _).alloc (Nat.le_refl _) _
 have hB : Blk W1 w.heap.size (exC x (.slice pl x.lab.length cl) (.slice pa x.kids.length ca)) 26 := by rw [← eW]; exact Blk.new _ _ _
 obtain ⟨q0, q1, q2, q3, q4, q5, q6⟩ := hB.cells7
 have HQ : Hid (∀ W, Below W1.heap.size W1 W → Blk W w.heap.size (exC x (.slice pl x.lab.length cl) (.slice pa x.kids.length ca)) 26) := fun W hb => hB.below hb
 have HD := Hd (refDeep_calls x _ W1 (hv0.stays (keeps_of_below hb1)) hn)
 have HF : Hid (∀ W, Below W1.heap.size W1 W → Calls Tryz.prog 63 #[.agg #[.int .i64 x.kind, .int .i64 x.at_, .int .i64 x.num, .int .i64 x.ty, .string x.name, .slice pl x.lab.length cl, .slice pa x.kids.length ca]] W fun e w' => e = .returned (.bool (frmE x)) ∧ Below W.heap.size W w') := fun W hb => frm_calls x _ W hx ((hm.below hb1).below hb) ((hv0.stays (keeps_of_below hb1)).stays (keeps_of_below hb))
 have HBW := Hd hb1
 have hdn : deepE x ≤ 1048576 := Nat.le_trans (deep_le_nodes x) hn
 generalize frmE x = fx at *
 by_cases hd : deepE x ≤ 12
 · have HDD : Hid (decide (deepE x ≤ 12) = true) := decide_eq_true hd
   have hdi : (deepE x : Int) ≤ 12 := by omega
   clear hb1 hB hv0 hd hx hn hm
   generalize deepE x = dx at *
   go_enter Tryz.func24, Tryz.ntmps24
   go_wp2_with (fail)
   refine HD.out.mono ?_
   rintro e w2 ⟨rfl, hb2⟩
   have HF2 := Hd (HF.out w2 hb2)
   have HB2 := Hd (HBW.out.trans (hb2.mono HBW.out.size))
   clear q0 q1 q2 q3 q4 q5 q6
   obtain ⟨q0, q1, q2, q3, q4, q5, q6⟩ := (HQ.out _ hb2).cells7
   clear hb2
   go_wp2_with (fail)
   refine HF2.out.mono ?_
   rintro e w3 ⟨rfl, hb3⟩
   have HB3 := Hd (HB2.out.trans (hb3.mono HB2.out.size))
   clear hb3
   go_wp2_with (fail)
   go_ret
   exact ⟨by rw [HR.out, HDD.out]; rfl, HB3.out⟩
 · have HDD : Hid (decide (deepE x ≤ 12) = false) := decide_eq_false hd
   have hdi : ¬ (deepE x : Int) ≤ 12 := by omega
   clear hb1 hB hv0 hd hx hn hm
   generalize deepE x = dx at *
   go_enter Tryz.func24, Tryz.ntmps24
   go_wp2_with (fail)
   refine HD.out.mono ?_
   rintro e w2 ⟨rfl, hb2⟩
   have HB2 := Hd (HBW.out.trans (hb2.mono HBW.out.size))
   clear hb2
   go_wp2_with (fail)
   go_ret
   exact ⟨by rw [HR.out, HDD.out]; rfl, HB2.out⟩
end
section
open Go.RowKit
theorem num_fit {s : Txt} {T : List Tok} (h3 : ∀ t ∈ T, Stands s t) {k : Nat} (h2 : (tkNext T k).1 = 2) : okNum (numT (tkNext T k).2.2) := by
 have hlt : k < T.length := kind_lt (by omega)
 have ht := h3 _ (List.getElem_mem hlt)
 rw [← tkNext_lt hlt] at ht
 obtain ⟨p, h1, _, h4, _, _⟩ := ht
 rw [h2] at h4
 obtain ⟨h6, h7⟩ := num_atoi (rest_cons h1) h4
 have hl : (tkNext T k).2.2.data.toList.length ≤ 18 := by
  rw [Array.length_toList]
  have : (tkNext T k).2.2.data.size ≤ 9 := h6
  omega
 have h8 := Lib.atoiAll_short _ hl
 rw [h7] at h8
 exact Lib.atoiAll_bounds h8
theorem readX_fit (s : Txt) : OkEx (readX s).1 ∧ nodesE (readX s).1 ≤ 1048576 := by
 have hz : OkEx Ex.zero ∧ nodesE Ex.zero ≤ 1048576 := ⟨.mk _ _ _ _ _ _ _ (by unfold okNum; omega) (by unfold okNum; omega) (by unfold okNum; omega) (by unfold okNum; omega) okTxt_nil fun y hy => (by cases hy), by decide⟩
 unfold readX
 split
 · rename_i hc
   obtain ⟨T, q, hs⟩ : ∃ T q, scanOf s = (T, 0, q) := ⟨(scanOf s).1, (scanOf s).2.2, by rw [← hc]⟩
   obtain rfl := scanOf_zero hs
   obtain ⟨h1, h2, h3⟩ := scanOf_stands hs
   simp only [hs]
   cases hq : exprL T (primP T s.size 12) 5 0 with
   | bad c a => exact hz
   | ok x k =>
     have hA : ∀ k, okNum (tkNext T k).2.1 := fun k => by
      by_cases hk : k < T.length
      · rw [tkNext_lt hk]
        have := stands_size (h3 _ (List.getElem_mem hk))
        unfold okNum
        omega
      · rw [tkNext_ge hk]; unfold okNum; decide
     have hX : ∀ k, okTxt (tkNext T k).2.2 := fun k => by
      by_cases hk : k < T.length
      · rw [tkNext_lt hk]
        have := stands_size (h3 _ (List.getElem_mem hk))
        unfold okTxt
        omega
      · rw [tkNext_ge hk]; unfold okTxt; decide
     have hN : ∀ k, (tkNext T k).1 = 2 → okNum (numT (tkNext T k).2.2) := fun k h2 => num_fit h3 h2
     have hf := exprL_fit hA hX (primP_fit (E := s.size) hA hX hN 12) 5 _ _ _ hq
     have hi := exprL_in (primP_in (T := T) (E := s.size) 12) 5 _ _ _ hq (Nat.zero_le _)
     show OkEx (if k < T.length then (Ex.zero, (1 : Int), tkAt T s.size k) else (x, 0, 0)).1 ∧ nodesE (if k < T.length then (Ex.zero, (1 : Int), tkAt T s.size k) else (x, 0, 0)).1 ≤ 1048576
     split
     · exact hz
     · exact ⟨hf.1, by have := hf.2; show nodesE x ≤ _; omega⟩
 · exact hz
theorem pairE_done {w V : World} {c a : Int} {x0 x1 x2 x3 x4 x5 x6 : Value} (tmps : Array Value) (ht2 : tmps[2]? = some (.pointer (some ⟨w.heap.size, 0, none⟩))) (ht3 : tmps[3]? = some (.pointer (some ⟨w.heap.size + 1, 0, none⟩)))
 (h4 : Blk V w.heap.size [x0, x1, x2, x3, x4, x5, x6] 26) (h5 : Blk V (w.heap.size + 1) [.int .i64 c, .int .i64 a] 35) :
 (results Tryz.f29 tmps).run Tryz.prog V = .ok (.tuple #[.agg #[x0, x1, x2, x3, x4, x5, x6], .agg #[.int .i64 c, .int .i64 a]]) V := by
 obtain ⟨q0, q1, q2, q3, q4, q5, q6⟩ := h4.cells7
 have r0 := h5.cell 0
 have r1 := h5.cell 1
 simp only [List.getElem?_cons_zero, List.getElem?_cons_succ] at r0 r1
 simp [results, Tryz.results29, go_sem, ht2, ht3, q0, q1, q2, q3, q4, q5, q6, r0, r1]
theorem readExpr_calls (s : Txt) (w : World) (hm : MaxL w) (htok : ∀ W, Below w.heap.size w W → Calls Tryz.prog 144 #[.string s] W fun e w' => ∃ y, e = .returned (.tuple #[y, .agg #[.int .i64 (scanOf s).2.1, .int .i64 (scanOf s).2.2]]) ∧ Toks w' (scanOf s).1 y ∧ Below W.heap.size W w') : Calls Tryz.prog 29 #[.string s] w (Reads w (parseX s)) := by
 obtain ⟨W2, eW⟩ : ∃ W2, (w.alloc (.cells #[.int .i64 0, .int .i64 0, .int .i64 0, .int .i64 0, .string ⟨#[]⟩, .slice none 0 0, .slice none 0 0] 26)).alloc (.cells #[.int .i64 0, .int .i64 0] 35) = W2 := ⟨_, rfl⟩
 obtain ⟨z2, hb2, m0, m1⟩ := boxes2 eW
 have hB2 : Blk W2 w.heap.size zeroC 26 := by rw [← eW]; exact (Blk.new _ _ _).below ((Below.refl _ _).alloc (Nat.le_refl _) _)
 have hC2 : Blk W2 (w.heap.size + 1) [.int .i64 0, .int .i64 0] 35 := by rw [← eW]; exact Blk.new2 _ _ _ _ _
 have HB2 := Hd hb2
 have HE2 := Hd hB2
 have HF2 := Hd hC2
 have HTB := Hd hm
 have HRC := Hd (readR_calls s W2 fun W hW => htok W (hb2.trans (hW.mono hb2.size)))
 have HPX : Hid (parseX s = if (readX s).2.1 = 0 then (if formedS (readX s).1 then readX s else (Ex.zero, 2, 0)) else readX s) := rfl
 have HFIT : Hid (OkEx (readX s).1 ∧ nodesE (readX s).1 ≤ 1048576) := readX_fit s
 clear hb2 m0 m1 hB2 hC2 hm htok
 generalize readX s = r at *
 obtain ⟨x, c, a⟩ := r
 go_enter Tryz.func29, Tryz.ntmps29
 go_wp2_with (fail)
 clear eW
 refine HRC.out.mono ?_
 rintro e w3 ⟨v3, rfl, hx3, hb3⟩
 have HX3 := Hd hx3
 obtain ⟨vl, va, rfl, hvl, hva⟩ := hx3
 obtain ⟨pl, cl, rfl, _⟩ := hvl
 obtain ⟨pa, ca, rfl, _⟩ := hva
 obtain ⟨W4, eW4⟩ : ∃ W4, (w3.alloc (.cells #[.int .i64 x.kind, .int .i64 x.at_, .int .i64 x.num, .int .i64 x.ty, .string x.name, .slice pl x.lab.length cl, .slice pa x.kids.length ca] 26)).alloc (.cells #[.int .i64 c, .int .i64 a] 35) = W4 := ⟨_, rfl⟩
 obtain ⟨z4, hb4, m0, m1⟩ := boxes2 eW4
 have HBX : Hid (Blk W4 w3.heap.size [.int .i64 x.kind, .int .i64 x.at_, .int .i64 x.num, .int .i64 x.ty, .string x.name, .slice pl x.lab.length cl, .slice pa x.kids.length ca] 26) := by rw [← eW4]; exact (Blk.new _ _ _).below ((Below.refl _ _).alloc (Nat.le_refl _) _)
 have HBF : Hid (Blk W4 (w3.heap.size + 1) [.int .i64 c, .int .i64 a] 35) := by rw [← eW4]; exact Blk.new2 _ _ _ _ _
 have hb34 := hb3.trans (hb4.mono hb3.size)
 have HE4 := Hd (HE2.out.below hb34)
 have HF4 := Hd (HF2.out.below hb34)
 have HB4 := Hd (HB2.out.trans (hb34.mono HB2.out.size))
 have HN3 : Hid (w.heap.size + 1 < w3.heap.size) := (HF2.out.below hb3).lt
 have HX4 := Hd (HX3.out.stays (since_below hb4))
 have HW2 : Hid (W2.heap.size = w.heap.size + 2) := z2
 have HFM := Hd (isFormed_calls x _ W4 HFIT.out.1 HFIT.out.2 (HTB.out.below HB4.out) (HX4.out.stays (hide_keeps _ _)))
 obtain ⟨q0, q1, q2, q3, q4, q5, q6⟩ := HBX.out.cells7
 have r0 := HBF.out.cell 0
 have r1 := HBF.out.cell 1
 simp only [List.getElem?_cons_zero, List.getElem?_cons_succ] at r0 r1
 clear hb3 hb4 hb34 m0 m1 z4 HRC
 by_cases hc : c = 0
 · have hc1 : (c == 0) = true := by simp [hc]
   have HC0 := Hd hc
   clear hc
   cases hf : formedS x with
   | false =>
     rw [hf] at HFM
     have HPY : Hid (parseX s = (Ex.zero, 2, 0)) := by unfold Hid; rw [HPX.out]; show (if c = 0 then _ else _) = _; rw [if_pos HC0.out]; show (if formedS x = true then _ else _) = _; rw [hf]; rfl
     clear hf HPX
     go_wp2_with (fail)
     clear eW4
     refine HFM.out.mono ?_
     rintro e w5 ⟨rfl, hb5⟩
     have HE5 := Hd (HE4.out.below hb5)
     have HF5 := Hd (HF4.out.below hb5)
     have HB5 := Hd (HB4.out.trans (hb5.mono HB4.out.size))
     clear q0 q1 q2 q3 q4 q5 q6 r0 r1 hb5
     obtain ⟨q0, q1, q2, q3, q4, q5, q6⟩ := HE5.out.cells7
     obtain ⟨f0, f1, f2, f3, f4, f5, f6⟩ := HE5.out.fz7
     have r0 := HF5.out.cell 0
     have r1 := HF5.out.cell 1
     simp only [List.getElem?_cons_zero, List.getElem?_cons_succ] at r0 r1
     have k0 := HF5.out.fz 0
     have k1 := HF5.out.fz 1
     have hn1 : ¬ w.heap.size = w.heap.size + 1 := by omega
     obtain ⟨V0, eV0⟩ : ∃ V0, sev w5 w.heap.size (.int .i64 0) (.int .i64 0) (.int .i64 0) (.int .i64 0) (.string ⟨#[]⟩) (.slice none 0 0) (.slice none 0 0) = V0 := ⟨_, rfl⟩
     obtain ⟨V1, eV1⟩ : ∃ V1, (V0.setCell ⟨w.heap.size + 1, 0, none⟩ (.int .i64 2)).setCell ⟨w.heap.size + 1, 1, none⟩ (.int .i64 0) = V1 := ⟨_, rfl⟩
     obtain ⟨_, _, _, g4, g5, _, _, g8⟩ := pair_set HB5.out HE5.out HF5.out eV0.symm eV1.symm
     have HG4 := Hd g4
     have HG5 := Hd g5
     have HG8 := Hd g8
     have EV0 := Hd eV0
     have EV1 := Hd eV1
     clear g4 g5 g8 eV0 eV1
     go_wp2_with (fail)
     rw [HPY.out]
     have h1 := And.intro HG4.out (And.intro HG5.out HG8.out)
     rw [← EV1.out, ← EV0.out] at h1
     unfold sev at h1
     exact bodyPost_ret (pairE_done _ rfl rfl h1.1 h1.2.1) rfl ⟨_, rfl, exIs_zero _, h1.2.2⟩
   | true =>
     rw [hf] at HFM
     have HPY : Hid (parseX s = (x, c, a)) := by unfold Hid; rw [HPX.out]; show (if c = 0 then _ else _) = _; rw [if_pos HC0.out]; show (if formedS x = true then _ else _) = _; rw [hf]; rfl
     clear hf HPX
     go_wp2_with (fail)
     clear eW4
     refine HFM.out.mono ?_
     rintro e w5 ⟨rfl, hb5⟩
     have HE5 := Hd (HE4.out.below hb5)
     have HF5 := Hd (HF4.out.below hb5)
     have HB5 := Hd (HB4.out.trans (hb5.mono HB4.out.size))
     have HBX5 := Hd (HBX.out.below hb5)
     have HBF5 := Hd (HBF.out.below hb5)
     have HX5 := Hd (HX4.out.stays (since_below hb5))
     clear q0 q1 q2 q3 q4 q5 q6 r0 r1 hb5
     have HS0 : Hid (∀ V : World, (∀ b, b = w3.heap.size ∨ b = w3.heap.size + 1 → V.heap[b]? = w5.heap[b]?) → (V.cell? ⟨w3.heap.size, 0, none⟩ = some (.int .i64 x.kind) ∧ V.cell? ⟨w3.heap.size, 1, none⟩ = some (.int .i64 x.at_) ∧ V.cell? ⟨w3.heap.size, 2, none⟩ = some (.int .i64 x.num) ∧ V.cell? ⟨w3.heap.size, 3, none⟩ = some (.int .i64 x.ty) ∧ V.cell? ⟨w3.heap.size, 4, none⟩ = some (.string x.name) ∧ V.cell? ⟨w3.heap.size, 5, none⟩ = some (.slice pl x.lab.length cl) ∧ V.cell? ⟨w3.heap.size, 6, none⟩ = some (.slice pa x.kids.length ca) ∧ V.cell? ⟨w3.heap.size + 1, 0, none⟩ = some (.int .i64 c) ∧ V.cell? ⟨w3.heap.size + 1, 1, none⟩ = some (.int .i64 a))) := fun V h => by
      have b4 : Blk V w3.heap.size [.int .i64 x.kind, .int .i64 x.at_, .int .i64 x.num, .int .i64 x.ty, .string x.name, .slice pl x.lab.length cl, .slice pa x.kids.length ca] 26 := (h _ (.inl rfl)).trans HBX5.out
      have b5 : Blk V (w3.heap.size + 1) [.int .i64 c, .int .i64 a] 35 := (h _ (.inr rfl)).trans HBF5.out
      obtain ⟨p0, p1, p2, p3, p4, p5, p6⟩ := b4.cells7
      exact ⟨p0, p1, p2, p3, p4, p5, p6, b5.cell 0, b5.cell 1⟩
     obtain ⟨q0, q1, q2, q3, q4, q5, q6⟩ := HE5.out.cells7
     obtain ⟨f0, f1, f2, f3, f4, f5, f6⟩ := HE5.out.fz7
     have r0 := HF5.out.cell 0
     have r1 := HF5.out.cell 1
     simp only [List.getElem?_cons_zero, List.getElem?_cons_succ] at r0 r1
     have k0 := HF5.out.fz 0
     have k1 := HF5.out.fz 1
     have hn1 : ¬ w.heap.size = w.heap.size + 1 := by omega
     obtain ⟨V0, eV0⟩ : ∃ V0, sev w5 w.heap.size (.int .i64 x.kind) (.int .i64 x.at_) (.int .i64 x.num) (.int .i64 x.ty) (.string x.name) (.slice pl x.lab.length cl) (.slice pa x.kids.length ca) = V0 := ⟨_, rfl⟩
     obtain ⟨V1, eV1⟩ : ∃ V1, (V0.setCell ⟨w.heap.size + 1, 0, none⟩ (.int .i64 c)).setCell ⟨w.heap.size + 1, 1, none⟩ (.int .i64 a) = V1 := ⟨_, rfl⟩
     obtain ⟨_, hq0, hz0, g4, g5, hq1, hz1, g8⟩ := pair_set HB5.out HE5.out HF5.out eV0.symm eV1.symm
     have HK1 := Hd (HS0.out w5.drew (fun b _ => rfl))
     have hK2 := HS0.out V0.drew (fun b hb => hq0 b (by have h1 := HN3.out; omega))
     have hK3 := HS0.out V1.drew (fun b hb => hq1 b (by have h1 := HN3.out; omega) (by have h1 := HN3.out; omega))
     have hXF : ExIs (since w.heap.size V1.drew) x (.agg #[.int .i64 x.kind, .int .i64 x.at_, .int .i64 x.num, .int .i64 x.ty, .string x.name, .slice pl x.lab.length cl, .slice pa x.kids.length ca]) := HX5.out.stays ((keeps_hide (q := fun b => decide (b < W2.heap.size)) (by show w5.heap.size ≤ V1.heap.size; rw [hz1]; exact Nat.le_refl _) fun b hb hp => ⟨hp, hq1 b (by have h1 := HW2.out; simp at hp; omega) (by have h1 := HW2.out; simp at hp; omega)⟩ : Keeps (since W2.heap.size w5) (since W2.heap.size V1.drew)).trans (since_mono _ (by have h1 := HW2.out; omega)))
     have hG : Blk V1.drew w.heap.size [.int .i64 x.kind, .int .i64 x.at_, .int .i64 x.num, .int .i64 x.ty, .string x.name, .slice pl x.lab.length cl, .slice pa x.kids.length ca] 26 ∧ Blk V1.drew (w.heap.size + 1) [.int .i64 c, .int .i64 a] 35 ∧ Below w.heap.size w V1.drew ∧ ExIs (since w.heap.size V1.drew) x (.agg #[.int .i64 x.kind, .int .i64 x.at_, .int .i64 x.num, .int .i64 x.ty, .string x.name, .slice pl x.lab.length cl, .slice pa x.kids.length ca]) := ⟨g4, g5, g8.drew, hXF⟩
     rw [← eV1, ← eV0] at hK3 hG
     rw [← eV0] at hK2
     unfold sev at hK2 hK3 hG
     have HK2 := Hd hK2
     have HK3 := Hd hK3
     have HG := Hd hG
     clear hK2 hK3 hG hXF g4 g5 g8 hq0 hq1 hz0 hz1 eV0 eV1
     go_wp2_with (fail)
     go_region_held3 (fun w' => w'.cell? ⟨w3.heap.size, 0, none⟩ = some (.int .i64 x.kind) ∧ w'.cell? ⟨w3.heap.size, 1, none⟩ = some (.int .i64 x.at_) ∧ w'.cell? ⟨w3.heap.size, 2, none⟩ = some (.int .i64 x.num) ∧ w'.cell? ⟨w3.heap.size, 3, none⟩ = some (.int .i64 x.ty) ∧ w'.cell? ⟨w3.heap.size, 4, none⟩ = some (.string x.name) ∧ w'.cell? ⟨w3.heap.size, 5, none⟩ = some (.slice pl x.lab.length cl) ∧ w'.cell? ⟨w3.heap.size, 6, none⟩ = some (.slice pa x.kids.length ca) ∧ w'.cell? ⟨w3.heap.size + 1, 0, none⟩ = some (.int .i64 c) ∧ w'.cell? ⟨w3.heap.size + 1, 1, none⟩ = some (.int .i64 a))
      (first | with_reducible exact HK1.out | with_reducible exact HK2.out | with_reducible exact HK3.out)
      (fail)
     all_goals go_wp2_with (fail)
     all_goals rw [HPY.out]
     all_goals exact bodyPost_ret (pairE_done _ rfl rfl HG.out.1 HG.out.2.1) rfl ⟨_, rfl, HG.out.2.2.2, HG.out.2.2.1⟩
 · have hc1 : (c == 0) = false := by simp [hc]
   have HPY : Hid (parseX s = (x, c, a)) := by unfold Hid; rw [HPX.out]; show (if c = 0 then _ else _) = _; rw [if_neg hc]
   have HE5 := HE4
   have HF5 := HF4
   have HB5 := HB4
   have HBX5 := HBX
   have HBF5 := HBF
   have HX5 := HX4
   clear hc HPX
   go_wp2_with (fail)
   clear eW4 q0 q1 q2 q3 q4 q5 q6 r0 r1
   have HS0 : Hid (∀ V : World, (∀ b, b = w3.heap.size ∨ b = w3.heap.size + 1 → V.heap[b]? = W4.heap[b]?) → (V.cell? ⟨w3.heap.size, 0, none⟩ = some (.int .i64 x.kind) ∧ V.cell? ⟨w3.heap.size, 1, none⟩ = some (.int .i64 x.at_) ∧ V.cell? ⟨w3.heap.size, 2, none⟩ = some (.int .i64 x.num) ∧ V.cell? ⟨w3.heap.size, 3, none⟩ = some (.int .i64 x.ty) ∧ V.cell? ⟨w3.heap.size, 4, none⟩ = some (.string x.name) ∧ V.cell? ⟨w3.heap.size, 5, none⟩ = some (.slice pl x.lab.length cl) ∧ V.cell? ⟨w3.heap.size, 6, none⟩ = some (.slice pa x.kids.length ca) ∧ V.cell? ⟨w3.heap.size + 1, 0, none⟩ = some (.int .i64 c) ∧ V.cell? ⟨w3.heap.size + 1, 1, none⟩ = some (.int .i64 a))) := fun V h => by
    have b4 : Blk V w3.heap.size [.int .i64 x.kind, .int .i64 x.at_, .int .i64 x.num, .int .i64 x.ty, .string x.name, .slice pl x.lab.length cl, .slice pa x.kids.length ca] 26 := (h _ (.inl rfl)).trans HBX5.out
    have b5 : Blk V (w3.heap.size + 1) [.int .i64 c, .int .i64 a] 35 := (h _ (.inr rfl)).trans HBF5.out
    obtain ⟨p0, p1, p2, p3, p4, p5, p6⟩ := b4.cells7
    exact ⟨p0, p1, p2, p3, p4, p5, p6, b5.cell 0, b5.cell 1⟩
   obtain ⟨q0, q1, q2, q3, q4, q5, q6⟩ := HE5.out.cells7
   obtain ⟨f0, f1, f2, f3, f4, f5, f6⟩ := HE5.out.fz7
   have r0 := HF5.out.cell 0
   have r1 := HF5.out.cell 1
   simp only [List.getElem?_cons_zero, List.getElem?_cons_succ] at r0 r1
   have k0 := HF5.out.fz 0
   have k1 := HF5.out.fz 1
   have hn1 : ¬ w.heap.size = w.heap.size + 1 := by omega
   obtain ⟨V0, eV0⟩ : ∃ V0, sev W4 w.heap.size (.int .i64 x.kind) (.int .i64 x.at_) (.int .i64 x.num) (.int .i64 x.ty) (.string x.name) (.slice pl x.lab.length cl) (.slice pa x.kids.length ca) = V0 := ⟨_, rfl⟩
   obtain ⟨V1, eV1⟩ : ∃ V1, (V0.setCell ⟨w.heap.size + 1, 0, none⟩ (.int .i64 c)).setCell ⟨w.heap.size + 1, 1, none⟩ (.int .i64 a) = V1 := ⟨_, rfl⟩
   obtain ⟨_, hq0, hz0, g4, g5, hq1, hz1, g8⟩ := pair_set HB5.out HE5.out HF5.out eV0.symm eV1.symm
   have HK1 := Hd (HS0.out W4.drew (fun b _ => rfl))
   have hK2 := HS0.out V0.drew (fun b hb => hq0 b (by have h1 := HN3.out; omega))
   have hK3 := HS0.out V1.drew (fun b hb => hq1 b (by have h1 := HN3.out; omega) (by have h1 := HN3.out; omega))
   have hXF : ExIs (since w.heap.size V1.drew) x (.agg #[.int .i64 x.kind, .int .i64 x.at_, .int .i64 x.num, .int .i64 x.ty, .string x.name, .slice pl x.lab.length cl, .slice pa x.kids.length ca]) := HX5.out.stays ((keeps_hide (q := fun b => decide (b < W2.heap.size)) (by show W4.heap.size ≤ V1.heap.size; rw [hz1]; exact Nat.le_refl _) fun b hb hp => ⟨hp, hq1 b (by have h1 := HW2.out; simp at hp; omega) (by have h1 := HW2.out; simp at hp; omega)⟩ : Keeps (since W2.heap.size W4) (since W2.heap.size V1.drew)).trans (since_mono _ (by have h1 := HW2.out; omega)))
   have hG : Blk V1.drew w.heap.size [.int .i64 x.kind, .int .i64 x.at_, .int .i64 x.num, .int .i64 x.ty, .string x.name, .slice pl x.lab.length cl, .slice pa x.kids.length ca] 26 ∧ Blk V1.drew (w.heap.size + 1) [.int .i64 c, .int .i64 a] 35 ∧ Below w.heap.size w V1.drew ∧ ExIs (since w.heap.size V1.drew) x (.agg #[.int .i64 x.kind, .int .i64 x.at_, .int .i64 x.num, .int .i64 x.ty, .string x.name, .slice pl x.lab.length cl, .slice pa x.kids.length ca]) := ⟨g4, g5, g8.drew, hXF⟩
   rw [← eV1, ← eV0] at hK3 hG
   rw [← eV0] at hK2
   unfold sev at hK2 hK3 hG
   have HK2 := Hd hK2
   have HK3 := Hd hK3
   have HG := Hd hG
   clear hK2 hK3 hG hXF g4 g5 g8 hq0 hq1 hz0 hz1 eV0 eV1
   go_wp2_with (fail)
   go_region_held3 (fun w' => w'.cell? ⟨w3.heap.size, 0, none⟩ = some (.int .i64 x.kind) ∧ w'.cell? ⟨w3.heap.size, 1, none⟩ = some (.int .i64 x.at_) ∧ w'.cell? ⟨w3.heap.size, 2, none⟩ = some (.int .i64 x.num) ∧ w'.cell? ⟨w3.heap.size, 3, none⟩ = some (.int .i64 x.ty) ∧ w'.cell? ⟨w3.heap.size, 4, none⟩ = some (.string x.name) ∧ w'.cell? ⟨w3.heap.size, 5, none⟩ = some (.slice pl x.lab.length cl) ∧ w'.cell? ⟨w3.heap.size, 6, none⟩ = some (.slice pa x.kids.length ca) ∧ w'.cell? ⟨w3.heap.size + 1, 0, none⟩ = some (.int .i64 c) ∧ w'.cell? ⟨w3.heap.size + 1, 1, none⟩ = some (.int .i64 a))
    (first | with_reducible exact HK1.out | with_reducible exact HK2.out | with_reducible exact HK3.out)
    (fail)
   all_goals go_wp2_with (fail)
   all_goals rw [HPY.out]
   all_goals exact bodyPost_ret (pairE_done _ rfl rfl HG.out.1 HG.out.2.1) rfl ⟨_, rfl, HG.out.2.2.2, HG.out.2.2.1⟩
end
end Go.Proofs.YtmepcmnpmhhiiaaGreatDoor
