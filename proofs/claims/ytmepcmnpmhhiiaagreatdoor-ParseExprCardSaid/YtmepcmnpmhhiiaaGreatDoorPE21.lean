/- Texts of the proof that ParseExpr holds, part 21; no conditions. -/
import Derived.Test.YtmepcmnpmhhiiaaGreatDoorPE16
import Derived.Test.YtmepcmnpmhhiiaaGreatDoorPE17
import Derived.Test.YtmepcmnpmhhiiaaGreatDoorPE19
import Derived.Test.YtmepcmnpmhhiiaaGreatDoorPE20
import Derived.Test.YtmepcmnpmhhiiaaGreatDoorPE12
namespace Go.Proofs.YtmepcmnpmhhiiaaGreatDoor
set_option linter.unusedVariables false
set_option linter.unusedSimpArgs false
set_option maxHeartbeats 8000000
set_option maxRecDepth 100000
section
open Go.RowKit Go.Maps
def treeT : Txt := ⟨#[49, 43, 50, 42, 45, 40, 97, 43, 98, 41]⟩
def treeO : Txt := ⟨#[49, 32, 43, 32, 50, 32, 42, 32, 45, 40, 97, 32, 43, 32, 98, 41]⟩
def treeK0 : Ex := .mk 1 0 1 1 ⟨#[]⟩ [] []
def treeK1 : Ex := .mk 3 3 0 0 ⟨#[42]⟩ [] [.mk 1 2 2 1 ⟨#[]⟩ [] [], .mk 3 4 0 0 ⟨#[45]⟩ [] [.mk 3 7 0 0 ⟨#[43]⟩ [] [.mk 2 6 0 0 ⟨#[97]⟩ [] [], .mk 2 8 0 0 ⟨#[98]⟩ [] []]]]
def treeX : Ex := .mk 3 1 0 0 ⟨#[43]⟩ [] [treeK0, treeK1]
def treeToks : List Tok := [(2, 0, ⟨#[49]⟩), (4, 1, ⟨#[43]⟩), (2, 2, ⟨#[50]⟩), (4, 3, ⟨#[42]⟩), (4, 4, ⟨#[45]⟩), (4, 5, ⟨#[40]⟩), (1, 6, ⟨#[97]⟩), (4, 7, ⟨#[43]⟩), (1, 8, ⟨#[98]⟩), (4, 9, ⟨#[41]⟩)]
theorem tree_scan : scanOf treeT = (treeToks, 0, 0) := by decide +kernel
theorem tree_formed : formedS treeX = true := by decide +kernel
theorem tree_text : textP treeX 0 = treeO := by decide +kernel
theorem tree_expr : exprL treeToks (primP treeToks 10 12) 5 0 = .ok treeX 10 := by kernel_rfl
theorem tree_read : readX treeT = (treeX, 0, 0) := by
 have e : (treeT.size : Int) = 10 := by decide
 unfold readX
 rw [tree_scan, e]
 show (if (0 : Int) = 0 then (match exprL treeToks (primP treeToks 10 12) 5 0 with
  | .ok x k => if k < treeToks.length then (Ex.zero, 1, tkAt treeToks 10 k) else (x, 0, 0)
  | .bad c a => (Ex.zero, c, a)) else _) = _
 rw [if_pos rfl, tree_expr]
 rfl
theorem tree_parse : parseX treeT = (treeX, 0, 0) := by
 unfold parseX
 rw [tree_read]
 show (if (0 : Int) = 0 then (if formedS treeX = true then _ else _) else _) = _
 rw [if_pos rfl, if_pos tree_formed]
theorem tree_out : textS treeX = treeO ∧ textE treeX = 0 := by
 unfold textS textE
 rw [if_pos tree_formed, if_pos tree_formed]
 exact ⟨tree_text, rfl⟩
theorem treed_calls (w : World) (ht : Tab w) (hp : Pow w) : Calls Tryz.prog 10 #[] w fun e w' => e = .returned (.bool true) ∧ Below w.heap.size w w' := by
 have hx := parseX_calls treeT w ht
 rw [tree_parse] at hx
 unfold treeT at hx
 have HX := Hd hx
 have HT := Hd ht
 have HP := Hd hp
 clear hx ht hp
 go_enter Tryz.func10, Tryz.ntmps10
 go_wp2_with (fail)
 refine HX.out.mono ?_
 rintro e w1 ⟨v, rfl, hx1, hb1⟩
 replace hx1 := hx1.stays (hide_keeps _ _)
 have HX1 := Hd hx1
 obtain ⟨vl, va, rfl, hvl, hva⟩ := hx1
 obtain ⟨pl, cl, rfl, _⟩ := hvl
 have hva0 := hva
 obtain ⟨b, o, c, p, rfl, hmax, hpp, hkids⟩ := hva.at
 have hk1 := hkids 1 (by show 1 < 2; decide)
 obtain ⟨pl1, cl1, pa1, ca1, g1, g2, g3, g4, g5, g6, g7, g8, g9⟩ := hk1
 have g7' : w1.cell? ⟨b, o + 11, none⟩ = some (.string ⟨#[42]⟩) := by simpa [Nat.add_assoc, treeX, treeK1, Ex.kids, Ex.name] using g7
 obtain rfl := hpp (by show 0 < 2; decide)
 have e0 : treeX.kind = 3 ∧ treeX.at_ = 1 ∧ treeX.num = 0 ∧ treeX.ty = 0 ∧ treeX.name = ⟨#[43]⟩ ∧ treeX.lab.length = 0 ∧ treeX.kids.length = 2 := ⟨rfl, rfl, rfl, rfl, rfl, rfl, rfl⟩
 obtain ⟨e1, e2, e3, e4, e5, e6, e7⟩ := e0
 simp only [e1, e2, e3, e4, e5, e6, e7] at HX1 ⊢
 obtain ⟨W2, eW⟩ : ∃ W2, (w1.alloc (.cells #[.int .i64 3, .int .i64 1, .int .i64 0, .int .i64 0, .string ⟨#[43]⟩, .slice pl 0 cl, .slice (some ⟨b, o, none⟩) 2 c] 26)).alloc (.cells #[.int .i64 0, .int .i64 0] 35) = W2 := ⟨_, rfl⟩
 obtain ⟨z2, hb2, m0, m1⟩ := boxes2 eW
 have hB : Blk W2 w1.heap.size [.int .i64 3, .int .i64 1, .int .i64 0, .int .i64 0, .string ⟨#[43]⟩, .slice pl 0 cl, .slice (some ⟨b, o, none⟩) 2 c] 26 := by rw [← eW]; exact (Blk.new _ _ _).below ((Below.refl _ _).alloc (Nat.le_refl _) _)
 have hF : Blk W2 (w1.heap.size + 1) [.int .i64 0, .int .i64 0] 35 := by rw [← eW]; exact Blk.new2 _ _ _ _ _
 have HB := Hd hB
 have HF := Hd hF
 have HB2 := Hd (hb1.trans (hb2.mono hb1.size))
 have ht := textTop_calls treeX _ W2 (HX1.out.stays (keeps_of_below hb2)) (HT.out.below HB2.out) (HP.out.below HB2.out)
 rw [tree_out.1, tree_out.2] at ht
 have HTX := Hd ht
 have HG : Hid (W2.cell? ⟨b, o + 11, none⟩ = some (.string ⟨#[42]⟩)) := (keeps_of_below hb2).2 _ _ _ g7'
 obtain ⟨q0, q1, q2, q3, q4, q5, q6⟩ := hB.cells7
 have r0 := hF.cell 0
 have r1 := hF.cell 1
 simp only [List.getElem?_cons_zero, List.getElem?_cons_succ] at r0 r1
 have k0 := hF.fz 0
 have k1 := hF.fz 1
 have s7 := hF.same (i := 0) rfl
 have s8 := hF.same (i := 1) rfl
 clear ht hB hF hb1 hb2 hkids hmax g1 g2 g3 g4 g5 g6 g7 g8 g9 g7' hva hva0 m0 m1 z2 e1 e2 e3 e4 e5 e6 e7
 go_wp2_with (fail)
 clear eW q0 q1 q2 q3 q4 q5 q6 r0 r1 k0 k1 s7 s8
 refine HTX.out.mono ?_
 rintro e w3 ⟨rfl, hb3⟩
 obtain ⟨q0, q1, q2, q3, q4, q5, q6⟩ := (HB.out.below hb3).cells7
 have r0 := (HF.out.below hb3).cell 0
 simp only [List.getElem?_cons_zero] at r0
 have g := (keeps_of_below hb3).2 _ _ _ HG.out
 have HB3 := Hd (HB2.out.trans (hb3.mono HB2.out.size))
 unfold treeO
 clear hb3
 go_wp2_with (fail)
 go_ret
 exact ⟨rfl, HB3.out⟩
end
section
open Go.RowKit Go.Maps
theorem refSameX_deep : ∀ (n : Nat) (x y : Ex) (va vb : Value) (w : World), deepE x ≤ n → ExIs w x va → ExIs w y vb → Calls Tryz.prog 23 #[va, vb] w fun e w' => e = .returned (.bool (sameE x y)) ∧ Below w.heap.size w w' := by
 intro n
 induction n with
 | zero => intro x y va vb w h; rw [deepE_eq] at h; omega
 | succ n ih =>
   intro x y va vb w h hx hy
   refine refSame_step x y va vb w hx hy fun k h1 h2 W v u hv hu => ih _ _ v u W ?_ hv hu
   have := deepL_at h1
   rw [deepE_eq] at h
   omega
theorem refSameX_calls (x : Ex) (va vb : Value) (w : World) (hx : ExIs w x va) (hy : ExIs w x vb) : Calls Tryz.prog 23 #[va, vb] w fun e w' => e = .returned (.bool true) ∧ Below w.heap.size w w' := by
 have := refSameX_deep _ x x va vb w (Nat.le_refl _) hx hy
 rw [sameE_refl _ _ (Nat.le_refl _)] at this
 exact this
theorem refSameL_calls (l : Lab) (v u : Value) (w : World) (hv : Lbl w l v) (hu : Lbl w l u) : Calls Tryz.prog 15 #[v, u] w fun e w' => e = .returned (.bool true) ∧ Below w.heap.size w w' := by
 have := refSameLab_calls l l v u w hv hu
 rw [sameLab_refl] at this
 exact this
theorem parseExpr_calls (s : Txt) (w : World) (ht : Tab w) (hp : Pow w) (hm : MaxL w) :
 Calls Tryz.prog 5 #[.string s] w fun e w' => e = .returned (.bool true) ∧ Below w.heap.size w w' := by
 have htok : ∀ W, Below w.heap.size w W → Calls Tryz.prog 144 #[.string s] W fun e w' => ∃ y, e = .returned (.tuple #[y, .agg #[.int .i64 (scanOf s).2.1, .int .i64 (scanOf s).2.2]]) ∧ Toks w' (scanOf s).1 y ∧ Below W.heap.size W w' := fun W hW => by
  obtain ⟨mx, hmx⟩ := hm.below hW
  exact tokens_calls s mx W hmx (ht.below hW)
 have HX := Hd (parseX_calls s w ht)
 have HL : Hid (∀ W, Below w.heap.size w W → Calls Tryz.prog 14 #[.string s] W (ReadsL W (readL s))) := fun W hW => labelTop_calls s W (ht.below hW)
 have HRX : Hid (∀ W, Below w.heap.size w W → Calls Tryz.prog 29 #[.string s] W (Reads W (parseX s))) := fun W hW => readExpr_calls s W (hm.below hW) fun V hV => htok V (hW.trans (hV.mono hW.size))
 have HRL : Hid (∀ W, Below w.heap.size w W → Calls Tryz.prog 30 #[.string s] W (ReadsL W (readL s))) := fun W hW => readLabel_calls s W fun V hV => htok V (hW.trans (hV.mono hW.size))
 have HTR : Hid (∀ W, Below w.heap.size w W → Calls Tryz.prog 10 #[] W fun e w' => e = .returned (.bool true) ∧ Below W.heap.size W w') := fun W hW => treed_calls W (ht.below hW) (hp.below hW)
 clear htok ht hp hm
 generalize parseX s = r at *
 obtain ⟨x, c, a⟩ := r
 generalize readL s = rl at *
 obtain ⟨l, d, b⟩ := rl
 go_enter Tryz.func5, Tryz.ntmps5
 go_wp2_with (fail)
 refine HX.out.mono ?_
 rintro e w1 ⟨v, rfl, hx1, hb1⟩
 replace hx1 := hx1.stays (hide_keeps _ _)
 have HX1 := Hd hx1
 obtain ⟨vl, va, rfl, hvl, hva⟩ := hx1
 obtain ⟨pl, cl, rfl, _⟩ := hvl
 obtain ⟨pa, ca, rfl, _⟩ := hva
 obtain ⟨W2, eW2⟩ : ∃ W, (w1.alloc (.cells #[.int .i64 x.kind, .int .i64 x.at_, .int .i64 x.num, .int .i64 x.ty, .string x.name, .slice pl x.lab.length cl, .slice pa x.kids.length ca] 26)).alloc (.cells #[.int .i64 c, .int .i64 a] 35) = W := ⟨_, rfl⟩
 obtain ⟨z2, hb2, m0, m1⟩ := boxes2 eW2
 have HE2 : Hid (Blk W2 w1.heap.size [.int .i64 x.kind, .int .i64 x.at_, .int .i64 x.num, .int .i64 x.ty, .string x.name, .slice pl x.lab.length cl, .slice pa x.kids.length ca] 26) := by rw [← eW2]; exact (Blk.new _ _ _).below ((Below.refl _ _).alloc (Nat.le_refl _) _)
 have HF2 : Hid (Blk W2 (w1.heap.size + 1) [.int .i64 c, .int .i64 a] 35) := by rw [← eW2]; exact Blk.new2 _ _ _ _ _
 have HX2 := Hd (HX1.out.stays (keeps_of_below hb2))
 have hB2 := hb1.trans (hb2.mono hb1.size)
 have HB2 := Hd hB2
 have HL2 := Hd (HL.out W2 hB2)
 clear hb1 hb2 m0 m1 z2 hB2 HX HX1
 go_wp2_with (fail)
 clear eW2
 refine HL2.out.mono ?_
 rintro e w3 ⟨v, rfl, hl3, hb3⟩
 replace hl3 := Lbl.stays (hide_keeps _ _) hl3
 have HL3 := Hd hl3
 obtain ⟨pm, cm, rfl, _⟩ := hl3
 obtain ⟨W4, eW4⟩ : ∃ W, w3.alloc (.cells #[.int .i64 d, .int .i64 b] 35) = W := ⟨_, rfl⟩
 obtain ⟨z4, hb4, m0⟩ := boxes1 eW4
 have HG4 : Hid (Blk W4 w3.heap.size [.int .i64 d, .int .i64 b] 35) := by rw [← eW4]; exact Blk.new _ _ _
 have hb34 := hb3.trans (hb4.mono hb3.size)
 have hB4 := HB2.out.trans (hb34.mono HB2.out.size)
 have HB4 := Hd hB4
 have HE4 := Hd (HE2.out.below hb34)
 have HF4 := Hd (HF2.out.below hb34)
 have HX4 := Hd (HX2.out.stays (keeps_of_below hb34))
 have HL4 := Hd (Lbl.stays (keeps_of_below hb4) HL3.out)
 have HC4 := Hd (HRX.out W4 hB4)
 clear hb3 hb4 m0 z4 hb34 hB4 HL HL2 HL3 HE2 HF2 HX2 HB2
 go_wp2_with (fail)
 clear eW4
 refine HC4.out.mono ?_
 rintro e w5 ⟨v, rfl, hy5, hb5⟩
 replace hy5 := hy5.stays (hide_keeps _ _)
 have HY5 := Hd hy5
 obtain ⟨vl, va, rfl, hvl, hva⟩ := hy5
 obtain ⟨ql, dl, rfl, _⟩ := hvl
 obtain ⟨qa, da, rfl, _⟩ := hva
 obtain ⟨W6, eW6⟩ : ∃ W, (w5.alloc (.cells #[.int .i64 x.kind, .int .i64 x.at_, .int .i64 x.num, .int .i64 x.ty, .string x.name, .slice ql x.lab.length dl, .slice qa x.kids.length da] 26)).alloc (.cells #[.int .i64 c, .int .i64 a] 35) = W := ⟨_, rfl⟩
 obtain ⟨z6, hb6, m0, m1⟩ := boxes2 eW6
 have HY6 : Hid (Blk W6 w5.heap.size [.int .i64 x.kind, .int .i64 x.at_, .int .i64 x.num, .int .i64 x.ty, .string x.name, .slice ql x.lab.length dl, .slice qa x.kids.length da] 26) := by rw [← eW6]; exact (Blk.new _ _ _).below ((Below.refl _ _).alloc (Nat.le_refl _) _)
 have HZ6 : Hid (Blk W6 (w5.heap.size + 1) [.int .i64 c, .int .i64 a] 35) := by rw [← eW6]; exact Blk.new2 _ _ _ _ _
 have hb56 := hb5.trans (hb6.mono hb5.size)
 have hB6 := HB4.out.trans (hb56.mono HB4.out.size)
 have HB6 := Hd hB6
 have HE6 := Hd (HE4.out.below hb56)
 have HF6 := Hd (HF4.out.below hb56)
 have HG6 := Hd (HG4.out.below hb56)
 have HX6 := Hd (HX4.out.stays (keeps_of_below hb56))
 have HV6 := Hd (HY5.out.stays (keeps_of_below hb6))
 have HL6 := Hd (Lbl.stays (keeps_of_below hb56) HL4.out)
 have HC6 := Hd (HRL.out W6 hB6)
 clear hb5 hb6 m0 m1 z6 hb56 hB6 HE4 HF4 HG4 HX4 HY5 HL4 HC4 HB4
 go_wp2_with (fail)
 clear eW6
 refine HC6.out.mono ?_
 rintro e w7 ⟨v, rfl, hl7, hb7⟩
 replace hl7 := Lbl.stays (hide_keeps _ _) hl7
 have HM7 := Hd hl7
 obtain ⟨pn, cn, rfl, _⟩ := hl7
 obtain ⟨W8, eW8⟩ : ∃ W, w7.alloc (.cells #[.int .i64 d, .int .i64 b] 35) = W := ⟨_, rfl⟩
 obtain ⟨z8, hb8, m0⟩ := boxes1 eW8
 have hH8 : Blk W8 w7.heap.size [.int .i64 d, .int .i64 b] 35 := by rw [← eW8]; exact Blk.new _ _ _
 have hb78 := hb7.trans (hb8.mono hb7.size)
 have hB8 := HB6.out.trans (hb78.mono HB6.out.size)
 have hE8 := HE6.out.below hb78
 have hF8 := HF6.out.below hb78
 have hG8 := HG6.out.below hb78
 have hY8 := HY6.out.below hb78
 have hZ8 := HZ6.out.below hb78
 have hX8 := HX6.out.stays (keeps_of_below hb78)
 have hV8 := HV6.out.stays (keeps_of_below hb78)
 have hL8 := Lbl.stays (keeps_of_below hb78) HL6.out
 have hM8 := Lbl.stays (keeps_of_below hb8) HM7.out
 obtain ⟨ext, hx1, hx2⟩ := exists_ext W8
 have hx3 : ∀ r w', Below (ext r).heap.size (ext r) w' → ∃ r', w' = ext r' := fun r w' h => ⟨w', hx2 _ ((hx1 r).trans (h.mono (hx1 r).size))⟩
 have hbx : ∀ r, Below w.heap.size w (ext r) := fun r => hB8.trans ((hx1 r).mono hB8.size)
 have HTX : Hid (∀ r, Calls Tryz.prog 10 #[] (ext r) fun e w'' => e = .returned (.bool true) ∧ ∃ r', w'' = ext r') := fun r => (HTR.out _ (hbx r)).mono fun e w' ⟨h1, h2⟩ => ⟨h1, hx3 r w' h2⟩
 have HSE : Hid (∀ r, Calls Tryz.prog 23 #[.agg #[.int .i64 x.kind, .int .i64 x.at_, .int .i64 x.num, .int .i64 x.ty, .string x.name, .slice pl x.lab.length cl, .slice pa x.kids.length ca], .agg #[.int .i64 x.kind, .int .i64 x.at_, .int .i64 x.num, .int .i64 x.ty, .string x.name, .slice ql x.lab.length dl, .slice qa x.kids.length da]] (ext r) fun e w'' => e = .returned (.bool true) ∧ ∃ r', w'' = ext r') :=
  fun r => (refSameX_calls x _ _ _ (hX8.stays (keeps_of_below (hx1 r))) (hV8.stays (keeps_of_below (hx1 r)))).mono fun e w' ⟨h1, h2⟩ => ⟨h1, hx3 r w' h2⟩
 have HSS : Hid (∀ r, Calls Tryz.prog 31 #[.agg #[.int .i64 x.kind, .int .i64 x.at_, .int .i64 x.num, .int .i64 x.ty, .string x.name, .slice pl x.lab.length cl, .slice pa x.kids.length ca], .agg #[.int .i64 x.kind, .int .i64 x.at_, .int .i64 x.num, .int .i64 x.ty, .string x.name, .slice ql x.lab.length dl, .slice qa x.kids.length da]] (ext r) fun e w'' => e = .returned (.bool true) ∧ ∃ r', w'' = ext r') :=
  fun r => (spots_calls x _ _ _ (hX8.stays (keeps_of_below (hx1 r))) (hV8.stays (keeps_of_below (hx1 r)))).mono fun e w' ⟨h1, h2⟩ => ⟨h1, hx3 r w' h2⟩
 have HSL : Hid (∀ r, Calls Tryz.prog 15 #[.slice pm l.length cm, .slice pn l.length cn] (ext r) fun e w'' => e = .returned (.bool true) ∧ ∃ r', w'' = ext r') :=
  fun r => (refSameL_calls l _ _ _ (Lbl.stays (keeps_of_below (hx1 r)) hL8) (Lbl.stays (keeps_of_below (hx1 r)) hM8)).mono fun e w' ⟨h1, h2⟩ => ⟨h1, hx3 r w' h2⟩
 have HBX := Hd hbx
 have HDR : Hid (∀ r, ∃ r', (ext r).drew = ext r') := fun r => hx3 r _ (below_drew1 _)
 obtain ⟨r0, hr0⟩ : ∃ r0, W8 = ext r0 := ⟨W8, hx2 _ (Below.refl _ _)⟩
 rw [hr0] at eW8
 have q0 := fun r => (hE8.below (hx1 r)).cells7.1
 have q1 := fun r => (hE8.below (hx1 r)).cells7.2.1
 have q2 := fun r => (hE8.below (hx1 r)).cells7.2.2.1
 have q3 := fun r => (hE8.below (hx1 r)).cells7.2.2.2.1
 have q4 := fun r => (hE8.below (hx1 r)).cells7.2.2.2.2.1
 have q5 := fun r => (hE8.below (hx1 r)).cells7.2.2.2.2.2.1
 have q6 := fun r => (hE8.below (hx1 r)).cells7.2.2.2.2.2.2
 have v0 := fun r => (hY8.below (hx1 r)).cells7.1
 have v1 := fun r => (hY8.below (hx1 r)).cells7.2.1
 have v2 := fun r => (hY8.below (hx1 r)).cells7.2.2.1
 have v3 := fun r => (hY8.below (hx1 r)).cells7.2.2.2.1
 have v4 := fun r => (hY8.below (hx1 r)).cells7.2.2.2.2.1
 have v5 := fun r => (hY8.below (hx1 r)).cells7.2.2.2.2.2.1
 have v6 := fun r => (hY8.below (hx1 r)).cells7.2.2.2.2.2.2
 have f0 : ∀ r, (ext r).cell? ⟨w1.heap.size + 1, 0, none⟩ = some (.int .i64 c) := fun r => (hF8.below (hx1 r)).cell 0
 have f1 : ∀ r, (ext r).cell? ⟨w1.heap.size + 1, 1, none⟩ = some (.int .i64 a) := fun r => (hF8.below (hx1 r)).cell 1
 have g0 : ∀ r, (ext r).cell? ⟨w5.heap.size + 1, 0, none⟩ = some (.int .i64 c) := fun r => (hZ8.below (hx1 r)).cell 0
 have g1 : ∀ r, (ext r).cell? ⟨w5.heap.size + 1, 1, none⟩ = some (.int .i64 a) := fun r => (hZ8.below (hx1 r)).cell 1
 have j0 : ∀ r, (ext r).cell? ⟨w3.heap.size, 0, none⟩ = some (.int .i64 d) := fun r => (hG8.below (hx1 r)).cell 0
 have j1 : ∀ r, (ext r).cell? ⟨w3.heap.size, 1, none⟩ = some (.int .i64 b) := fun r => (hG8.below (hx1 r)).cell 1
 have k0 : ∀ r, (ext r).cell? ⟨w7.heap.size, 0, none⟩ = some (.int .i64 d) := fun r => (hH8.below (hx1 r)).cell 0
 have k1 : ∀ r, (ext r).cell? ⟨w7.heap.size, 1, none⟩ = some (.int .i64 b) := fun r => (hH8.below (hx1 r)).cell 1
 clear hx1 hx2 hx3 hbx hr0 hE8 hF8 hG8 hY8 hZ8 hX8 hV8 hL8 hM8 hH8 hB8 hb78 hb7 hb8 m0 z8 HM7 HE6 HF6 HG6 HY6 HZ6 HX6 HV6 HL6 HC6 HB6 HTR HRX HRL
 go_wp2_with (fail)
 refine (HTX.out _).mono ?_
 rintro e w9 ⟨rfl, r1, rfl⟩
 clear eW8
 go_wp2_with (fail)
 refine (HSE.out _).mono ?_
 rintro e w10 ⟨rfl, r2, rfl⟩
 go_wp2_with (fail)
 refine (HSS.out _).mono ?_
 rintro e w11 ⟨rfl, r3, rfl⟩
 go_wp2_with (fail)
 refine (HSL.out _).mono ?_
 rintro e w12 ⟨rfl, r4, rfl⟩
 go_wp2_with (fail)
 go_ret
 exact ⟨rfl, HBX.out _⟩
end
end Go.Proofs.YtmepcmnpmhhiiaaGreatDoor
