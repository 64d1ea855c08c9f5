/- Texts of the proof that ParseBrackets holds, part 11; no conditions. -/
import Derived.Test.YtminbehofnnhmaaGreatDoorPB10
namespace Go.Proofs.YtminbehofnnhmaaGreatDoor
set_option linter.unusedVariables false
set_option linter.unusedSimpArgs false
set_option maxHeartbeats 8000000
set_option maxRecDepth 100000
section
open Go.RowKit Go.Maps
def treeT : Txt := ⟨#[49, 43, 50, 42, 45, 40, 97, 43, 98, 41]⟩
def treeO : Txt := ⟨#[49, 32, 43, 32, 50, 32, 42, 32, 45, 40, 97, 32, 43, 32, 98, 41]⟩
def treeK0 : Ex := .mk 1 0 1 1 ⟨#[]⟩ [] []
def treeK1 : Ex := .mk 3 3 0 0 ⟨#[42]⟩ [] [.mk 1 2 2 1 ⟨#[]⟩ [] [], .mk 3 4 0 0 ⟨#[45]⟩ [] [.mk 3 7 0 0 ⟨#[43]⟩ [] [.mk 2 6 0 0 ⟨#[97]⟩ [] [], .mk 2 8 0 0 ⟨#[98]⟩ [] []]]]
def treeX : Ex := .mk 3 1 0 0 ⟨#[43]⟩ [] [treeK0, treeK1]
def treeToks : List Tok := [(2, 0, ⟨#[49]⟩), (4, 1, ⟨#[43]⟩), (2, 2, ⟨#[50]⟩), (4, 3, ⟨#[42]⟩), (4, 4, ⟨#[45]⟩), (4, 5, ⟨#[40]⟩), (1, 6, ⟨#[97]⟩), (4, 7, ⟨#[43]⟩), (1, 8, ⟨#[98]⟩), (4, 9, ⟨#[41]⟩)]
theorem tree_scan : scanOf treeT = (treeToks, 0, 0) := by decide +kernel
theorem tree_formed : formedS treeX = true := by decide +kernel
theorem tree_text : textP treeX 0 = treeO := by decide +kernel
theorem tree_expr : exprL treeToks (primP treeToks 10 12) 5 0 = .ok treeX 10 := by kernel_rfl
theorem tree_read : readX treeT = (treeX, 0, 0) := by
 have e : (treeT.size : Int) = 10 := by decide
 unfold readX
 rw [tree_scan, e]
 show (if (0 : Int) = 0 then (match exprL treeToks (primP treeToks 10 12) 5 0 with
  | .ok x k => if k < treeToks.length then (Ex.zero, 1, tkAt treeToks 10 k) else (x, 0, 0)
  | .bad c a => (Ex.zero, c, a)) else _) = _
 rw [if_pos rfl, tree_expr]
 rfl
theorem tree_parse : parseX treeT = (treeX, 0, 0) := by
 unfold parseX
 rw [tree_read]
 show (if (0 : Int) = 0 then (if formedS treeX = true then _ else _) else _) = _
 rw [if_pos rfl, if_pos tree_formed]
theorem tree_out : textS treeX = treeO ∧ textE treeX = 0 := by
 unfold textS textE
 rw [if_pos tree_formed, if_pos tree_formed]
 exact ⟨tree_text, rfl⟩
theorem treed_calls (w : World) (ht : Tab w) (hp : Pow w) : Calls Tryz.prog 14 #[] w fun e w' => e = .returned (.bool true) ∧ Below w.heap.size w w' := by
 have hx := parseX_calls treeT w ht
 rw [tree_parse] at hx
 unfold treeT at hx
 have HX := Hd hx
 have HT := Hd ht
 have HP := Hd hp
 clear hx ht hp
 go_enter Tryz.func14, Tryz.ntmps14
 go_wp2_with (fail)
 refine HX.out.mono ?_
 rintro e w1 ⟨v, rfl, hx1, hb1⟩
 replace hx1 := hx1.stays (hide_keeps _ _)
 have HX1 := Hd hx1
 obtain ⟨vl, va, rfl, hvl, hva⟩ := hx1
 obtain ⟨pl, cl, rfl, _⟩ := hvl
 have hva0 := hva
 obtain ⟨b, o, c, p, rfl, hmax, hpp, hkids⟩ := hva.at
 have hk1 := hkids 1 (by show 1 < 2; decide)
 obtain ⟨pl1, cl1, pa1, ca1, g1, g2, g3, g4, g5, g6, g7, g8, g9⟩ := hk1
 have g7' : w1.cell? ⟨b, o + 11, none⟩ = some (.string ⟨#[42]⟩) := by simpa [Nat.add_assoc, treeX, treeK1, Ex.kids, Ex.name] using g7
 obtain rfl := hpp (by show 0 < 2; decide)
 have e0 : treeX.kind = 3 ∧ treeX.at_ = 1 ∧ treeX.num = 0 ∧ treeX.ty = 0 ∧ treeX.name = ⟨#[43]⟩ ∧ treeX.lab.length = 0 ∧ treeX.kids.length = 2 := ⟨rfl, rfl, rfl, rfl, rfl, rfl, rfl⟩
 obtain ⟨e1, e2, e3, e4, e5, e6, e7⟩ := e0
 simp only [e1, e2, e3, e4, e5, e6, e7] at HX1 ⊢
 obtain ⟨W2, eW⟩ : ∃ W2, (w1.alloc (.cells #[.int .i64 3, .int .i64 1, .int .i64 0, .int .i64 0, .string ⟨#[43]⟩, .slice pl 0 cl, .slice (some ⟨b, o, none⟩) 2 c] 26)).alloc (.cells #[.int .i64 0, .int .i64 0] 35) = W2 := ⟨_, rfl⟩
 obtain ⟨z2, hb2, m0, m1⟩ := boxes2 eW
 have hB : Blk W2 w1.heap.size [.int .i64 3, .int .i64 1, .int .i64 0, .int .i64 0, .string ⟨#[43]⟩, .slice pl 0 cl, .slice (some ⟨b, o, none⟩) 2 c] 26 := by rw [← eW]; exact (Blk.new _ _ _).below ((Below.refl _ _).alloc (Nat.le_refl _) _)
 have hF : Blk W2 (w1.heap.size + 1) [.int .i64 0, .int .i64 0] 35 := by rw [← eW]; exact Blk.new2 _ _ _ _ _
 have HB := Hd hB
 have HF := Hd hF
 have HB2 := Hd (hb1.trans (hb2.mono hb1.size))
 have ht := textTop_calls treeX _ W2 (HX1.out.stays (keeps_of_below hb2)) (HT.out.below HB2.out) (HP.out.below HB2.out)
 rw [tree_out.1, tree_out.2] at ht
 have HTX := Hd ht
 have HG : Hid (W2.cell? ⟨b, o + 11, none⟩ = some (.string ⟨#[42]⟩)) := (keeps_of_below hb2).2 _ _ _ g7'
 obtain ⟨q0, q1, q2, q3, q4, q5, q6⟩ := hB.cells7
 have r0 := hF.cell 0
 have r1 := hF.cell 1
 simp only [List.getElem?_cons_zero, List.getElem?_cons_succ] at r0 r1
 have k0 := hF.fz 0
 have k1 := hF.fz 1
 have s7 := hF.same (i := 0) rfl
 have s8 := hF.same (i := 1) rfl
 clear ht hB hF hb1 hb2 hkids hmax g1 g2 g3 g4 g5 g6 g7 g8 g9 g7' hva hva0 m0 m1 z2 e1 e2 e3 e4 e5 e6 e7
 go_wp2_with (fail)
 clear eW q0 q1 q2 q3 q4 q5 q6 r0 r1 k0 k1 s7 s8
 refine HTX.out.mono ?_
 rintro e w3 ⟨rfl, hb3⟩
 obtain ⟨q0, q1, q2, q3, q4, q5, q6⟩ := (HB.out.below hb3).cells7
 have r0 := (HF.out.below hb3).cell 0
 simp only [List.getElem?_cons_zero] at r0
 have g := (keeps_of_below hb3).2 _ _ _ HG.out
 have HB3 := Hd (HB2.out.trans (hb3.mono HB2.out.size))
 unfold treeO
 clear hb3
 go_wp2_with (fail)
 go_ret
 exact ⟨rfl, HB3.out⟩
end
end Go.Proofs.YtminbehofnnhmaaGreatDoor
