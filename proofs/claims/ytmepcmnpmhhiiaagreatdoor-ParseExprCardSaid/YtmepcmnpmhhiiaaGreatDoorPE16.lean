/- Texts of the proof that ParseExpr holds, part 16; no conditions. -/
import Derived.Test.YtmepcmnpmhhiiaaGreatDoorPE15
import Derived.Test.YtmepcmnpmhhiiaaGreatDoorPE10
import Derived.BigQuiet
import Derived.Test.YtmepcmnpmhhiiaaGreatDoorPE02
import Derived.Test.YtmepcmnpmhhiiaaGreatDoorPE06
import Derived.Test.YtmepcmnpmhhiiaaGreatDoorPE08
import Derived.Test.YtmepcmnpmhhiiaaGreatDoorPE00
import Derived.Test.YtmepcmnpmhhiiaaGreatDoorPE04
import Derived.Lib.IndexMore
import Derived.Lib.SlTrimSet
import Derived.Test.YtmepcmnpmhhiiaaGreatDoorPE01
import Derived.Shelf.Strings.SlTrimAscii
import Derived.Lib.IndexLaws
namespace Go.Proofs.YtmepcmnpmhhiiaaGreatDoor
set_option linter.unusedVariables false
set_option linter.unusedSimpArgs false
set_option maxHeartbeats 8000000
set_option maxRecDepth 100000
section
open Go.RowKit Go.Maps
section
variable {w : World} {B : Nat} {T : List Tok} {E : Int} {tv : Value} {k bl al : Nat} {p : Nat → Rs Ex}
theorem one_none {W : World} {s : TS} {tmps : Array Value} (ht : tmps[2]? = some (.pointer (some ⟨w.heap.size + 1, 0, none⟩))) (hE : Blk W (w.heap.size + 1) zeroC 26) (hB : B < w.heap.size) (hA : Aside1 B w W) (htk : Toks (mask B w) T tv) (hr : Txr W B T E tv (s.run p) bl al) (hn : ∀ k x k', s = .go k → p k ≠ .ok x k') :
 ∃ v, (results Tryz.f146 tmps).run Tryz.prog (sev W (w.heap.size + 1) (.int .i64 0) (.int .i64 0) (.int .i64 0) (.int .i64 0) (.string ⟨#[]⟩) (.slice none 0 0) (.slice none 0 0)) = .ok v (sev W (w.heap.size + 1) (.int .i64 0) (.int .i64 0) (.int .i64 0) (.int .i64 0) (.string ⟨#[]⟩) (.slice none 0 0) (.slice none 0 0)) ∧ TDoes w B T E tv s bl al ExIs p (.returned v) (sev W (w.heap.size + 1) (.int .i64 0) (.int .i64 0) (.int .i64 0) (.int .i64 0) (.string ⟨#[]⟩) (.slice none 0 0) (.slice none 0 0)) := by
 have hA9 : Aside1 B w (sev W (w.heap.size + 1) (.int .i64 0) (.int .i64 0) (.int .i64 0) (.int .i64 0) (.string ⟨#[]⟩) (.slice none 0 0) (.slice none 0 0)) := aside_sev hA (by omega)
 obtain ⟨q0, q1, q2, q3, q4, q5, q6⟩ := (Blk.sev (a := .int .i64 0) (b := .int .i64 0) (c := .int .i64 0) (d := .int .i64 0) (e := .string ⟨#[]⟩) (f := .slice none 0 0) (g := .slice none 0 0) hE).cells7
 refine ⟨.agg #[.int .i64 0, .int .i64 0, .int .i64 0, .int .i64 0, .string ⟨#[]⟩, .slice none 0 0, .slice none 0 0], ?_, hA9, _, .mk 0 0 0 0 ⟨#[]⟩ [] [], rfl, ⟨(sev_block (by omega)).trans hr.blk, htk.stays hA9.keeps, hr.fine⟩, exIs_leaf _ _ _ _ _ _, fun k y k' e1 e2 => absurd e2 (hn k y k' e1)⟩
 simp [results, Tryz.results146, go_sem, ht, q0, q1, q2, q3, q4, q5, q6]
theorem one_stop {c a : Int} (h : Txr w B T E tv (.stop c a) bl al) : Calls Tryz.prog 146 #[.pointer (some ⟨B, 0, none⟩)] w (TDoes w B T E tv (.stop c a) bl al ExIs p) := by
 have HBL : Hid (B < w.heap.size) := h.lt
 have HTK := Hd h.toks
 obtain ⟨W2, eW⟩ : ∃ W2, (w.alloc (.cells #[.pointer (some ⟨B, 0, none⟩)] 104)).alloc (.cells #[.int .i64 0, .int .i64 0, .int .i64 0, .int .i64 0, .string ⟨#[]⟩, .slice none 0 0, .slice none 0 0] 26) = W2 := ⟨_, rfl⟩
 obtain ⟨z2, hb2, m0, m1⟩ := boxes2 eW
 have hP2 : Blk W2 w.heap.size [.pointer (some ⟨B, 0, none⟩)] 104 := by rw [← eW]; exact (Blk.new _ _ _).below ((Below.refl _ _).alloc (Nat.le_refl _) _)
 have hE2 : Blk W2 (w.heap.size + 1) zeroC 26 := by rw [← eW]; exact Blk.new2 _ _ _ _ _
 have g2 : W2.cell? ⟨w.heap.size, 0, none⟩ = some (.pointer (some ⟨B, 0, none⟩)) := hP2.cell 0
 have hr2 := h.below hb2
 have c3 := hr2.c3
 simp only [TS.c] at c3
 have hc : ¬ c = 0 := h.fine c a rfl
 have hc1 : (c != 0) = true := bne_iff_ne.2 hc
 have hc2 : (c == 0) = false := beq_eq_false_iff_ne.2 hc
 have HR2 := Hd hr2
 have HB2 := Hd hb2
 obtain ⟨e0, e1, e2, e3, e4, e5, e6⟩ := hE2.cells7
 obtain ⟨f0, f1, f2, f3, f4, f5, f6⟩ := hE2.fz7
 have HE2 := Hd hE2
 clear h hr2 hb2 hP2 hE2 m0 m1 z2 hc
 go_enter_defers Tryz.func146, Tryz.ntmps146
 go_wp2_with (fail)
 exact one_none rfl HE2.out HBL.out (aside_below HB2.out) HTK.out HR2.out (fun k x k' e => by cases e)
theorem one_deep (h : Txr w B T E tv (.go k) bl 12) (hp : p k = failP T E 2 k) : Calls Tryz.prog 146 #[.pointer (some ⟨B, 0, none⟩)] w (TDoes w B T E tv (.go k) bl 12 ExIs p) := by
 have HBL : Hid (B < w.heap.size) := h.lt
 have HTK := Hd h.toks
 obtain ⟨W2, eW⟩ : ∃ W2, (w.alloc (.cells #[.pointer (some ⟨B, 0, none⟩)] 104)).alloc (.cells #[.int .i64 0, .int .i64 0, .int .i64 0, .int .i64 0, .string ⟨#[]⟩, .slice none 0 0, .slice none 0 0] 26) = W2 := ⟨_, rfl⟩
 obtain ⟨z2, hb2, m0, m1⟩ := boxes2 eW
 have hP2 : Blk W2 w.heap.size [.pointer (some ⟨B, 0, none⟩)] 104 := by rw [← eW]; exact (Blk.new _ _ _).below ((Below.refl _ _).alloc (Nat.le_refl _) _)
 have hE2 : Blk W2 (w.heap.size + 1) zeroC 26 := by rw [← eW]; exact Blk.new2 _ _ _ _ _
 have g2 : W2.cell? ⟨w.heap.size, 0, none⟩ = some (.pointer (some ⟨B, 0, none⟩)) := hP2.cell 0
 have hr2 := h.below hb2
 have c3 := hr2.c3
 simp only [TS.c] at c3
 have c6 := hr2.c6
 have HRUN : Hid ((TS.go k).run (α := Unit) (fun k => failP T E 2 k) = (TS.go k).run p) := by unfold Hid; simp only [TS.run, hp, failP]
 have HNO : Hid (∀ j x k', TS.go k = .go j → p j ≠ .ok x k') := fun j x k' e e2 => by cases e; rw [hp] at e2; cases e2
 have HW := Hd (wrong_calls hr2 2 (by decide))
 have HB2 := Hd hb2
 have HE2 := Hd hE2
 have HP2 := Hd hP2
 have HNB : Hid (w.heap.size ≠ B ∧ w.heap.size + 1 ≠ B) := by have := h.lt; unfold Hid; omega
 clear h hr2 hb2 hP2 hE2 m0 m1 z2 hp
 go_enter_defers Tryz.func146, Tryz.ntmps146
 go_wp2_with (fail)
 refine HW.out.mono ?_
 rintro e w9 ⟨rfl, ha9, hr9⟩
 have HA9 := Hd ((aside_below (B := B) HB2.out).trans ha9)
 rw [HRUN.out] at hr9
 have HR9 := Hd hr9
 have hE9 := HE2.out.aside ha9 HNB.out.2
 obtain ⟨e0, e1, e2, e3, e4, e5, e6⟩ := hE9.cells7
 obtain ⟨f0, f1, f2, f3, f4, f5, f6⟩ := hE9.fz7
 have HE9 := Hd hE9
 clear hE9 ha9 hr9
 go_wp2_with (fail)
 exact one_none rfl HE9.out HBL.out HA9.out HTK.out HR9.out HNO.out
theorem primP_succ (d k : Nat) : primP T E (d + 1) k =
 if (tkNext T k).1 = 2 then .ok (.mk 1 (tkNext T k).2.1 (numT (tkNext T k).2.2) 1 ⟨#[]⟩ [] []) (k + 1)
 else if tkIs T k tTrue then .ok (.mk 1 (tkNext T k).2.1 1 2 ⟨#[]⟩ [] []) (k + 1)
 else if tkIs T k tFalse then .ok (.mk 1 (tkNext T k).2.1 0 2 ⟨#[]⟩ [] []) (k + 1)
 else if (tkNext T k).1 = 1 then
  (if tkIs T (k + 1) tLeft then (argsP T E (primP T E d) (k + 1)).bind fun l k2 => .ok (.mk 4 (tkNext T k).2.1 0 0 (tkNext T k).2.2 [] l) k2
   else .ok (.mk 2 (tkNext T k).2.1 0 0 (tkNext T k).2.2 [] []) (k + 1))
 else if tkIs T k tMinus || tkIs T k tNot then (primP T E d (k + 1)).bind fun x k2 => .ok (.mk 3 (tkNext T k).2.1 0 0 (tkNext T k).2.2 [] [x]) k2
 else if tkIs T k tLeft then (exprL T (primP T E d) 5 (k + 1)).bind fun x k2 => (mustP T E tRight k2).bind fun _ k3 => .ok x k3
 else if tkIs T k tRelease then (mustP T E tLeft (k + 1)).bind fun _ k1 => (exprL T (primP T E d) 5 k1).bind fun x k2 => (mustP T E tTo k2).bind fun _ k3 => (labelP T E k3).bind fun l k4 =>
  (mustP T E tRight k4).bind fun _ k5 => .ok (.mk 5 (tkNext T k).2.1 0 0 ⟨#[]⟩ l [x]) k5
 else failP T E 1 k := rfl
theorem one_calls (hato : PintC T) (hT : ∀ t ∈ T, okTxt t.2.2) : ∀ (d al : Nat), al + d = 12 → TReads B T E tv bl al 146 (primP T E d) := by
 intro d
 induction d with
 | zero =>
   intro al hn W s h
   obtain rfl : al = 12 := by omega
   cases s with
   | stop c a => exact one_stop h
   | go k => exact one_deep h (by unfold primP; rfl)
 | succ d ih =>
   intro al hn W s h
   cases s with
   | stop c a => exact one_stop h
   | go k =>
   have hal : al < 12 := by omega
   have hp := ih (al + 1) (by omega)
   have hx := texpr_calls (primP_mono d) hT hp
   by_cases h2 : (tkNext T k).1 = 2
   · exact one_num h hal h2 hato (by rw [primP_succ, if_pos h2])
   cases htt : tkIs T k tTrue with
   | true => exact one_true h hal h2 htt (by rw [primP_succ, if_neg h2, if_pos htt])
   | false =>
   cases htf : tkIs T k tFalse with
   | true => exact one_false h hal h2 htt htf (by rw [primP_succ, if_neg h2, if_neg (by simp [htt]), if_pos htf])
   | false =>
   by_cases h1 : (tkNext T k).1 = 1
   · have hno : ∀ x, tkIs T k x = false := fun x => by unfold tkIs; simp [h1]
     cases hl : tkIs T (k + 1) tLeft with
     | true => exact one_call h hal h2 htt htf (hno _) (hno _) (hno _) (hno _) hx h1 hl (by rw [primP_succ, if_neg h2, if_neg (by simp [htt]), if_neg (by simp [htf]), if_pos h1, if_pos hl])
     | false => exact one_var h hal h2 htt htf (hno _) (hno _) (hno _) (hno _) h1 hl (by rw [primP_succ, if_neg h2, if_neg (by simp [htt]), if_neg (by simp [htf]), if_pos h1, if_neg (by simp [hl])])
   cases htm : tkIs T k tMinus with
   | true => exact one_neg h hal h2 htt htf htm hp (by rw [primP_succ, if_neg h2, if_neg (by simp [htt]), if_neg (by simp [htf]), if_neg h1, if_pos (by simp [htm])])
   | false =>
   cases htn : tkIs T k tNot with
   | true => exact one_not h hal h2 htt htf htm htn hp (by rw [primP_succ, if_neg h2, if_neg (by simp [htt]), if_neg (by simp [htf]), if_neg h1, if_pos (by simp [htn])])
   | false =>
   cases htl : tkIs T k tLeft with
   | true => exact one_par h hal h2 htt htf htm htn htl hx (by rw [primP_succ, if_neg h2, if_neg (by simp [htt]), if_neg (by simp [htf]), if_neg h1, if_neg (by simp [htm, htn]), if_pos htl])
   | false =>
   cases htr : tkIs T k tRelease with
   | true => exact one_rel h hal h2 htt htf htm htn htl htr hx (by rw [primP_succ, if_neg h2, if_neg (by simp [htt]), if_neg (by simp [htf]), if_neg h1, if_neg (by simp [htm, htn]), if_neg (by simp [htl]), if_pos htr])
   | false => exact one_fail h hal h2 htt htf htm htn htl htr h1 (by rw [primP_succ, if_neg h2, if_neg (by simp [htt]), if_neg (by simp [htf]), if_neg h1, if_neg (by simp [htm, htn]), if_neg (by simp [htl]), if_neg (by simp [htr])])
theorem exprR_calls (hato : PintC T) (hT : ∀ t ∈ T, okTxt t.2.2) : TReads B T E tv bl 0 71 (exprL T (primP T E 12) 5) := texpr_calls (primP_mono 12) hT (one_calls hato hT 12 0 rfl)
end
end
section
open Go.RowKit Go.Maps
def parseX (s : Txt) : Ex × Int × Int := if (readX s).2.1 = 0 then (if formedS (readX s).1 then readX s else (Ex.zero, 2, 0)) else readX s
theorem pair_done {w V : World} {c a : Int} {x0 x1 x2 x3 x4 x5 x6 : Value} (tmps : Array Value) (ht2 : tmps[2]? = some (.pointer (some ⟨w.heap.size, 0, none⟩))) (ht3 : tmps[3]? = some (.pointer (some ⟨w.heap.size + 1, 0, none⟩)))
 (h4 : Blk V w.heap.size [x0, x1, x2, x3, x4, x5, x6] 26) (h5 : Blk V (w.heap.size + 1) [.int .i64 c, .int .i64 a] 35) :
 (results Tryz.f16 tmps).run Tryz.prog V = .ok (.tuple #[.agg #[x0, x1, x2, x3, x4, x5, x6], .agg #[.int .i64 c, .int .i64 a]]) V := by
 obtain ⟨q0, q1, q2, q3, q4, q5, q6⟩ := h4.cells7
 have r0 := h5.cell 0
 have r1 := h5.cell 1
 simp only [List.getElem?_cons_zero, List.getElem?_cons_succ] at r0 r1
 simp [results, Tryz.results16, go_sem, ht2, ht3, q0, q1, q2, q3, q4, q5, q6, r0, r1]
theorem pair_set {w W : World} {z0 z1 z2 z3 z4 z5 z6 y0 y1 x0 x1 x2 x3 x4 x5 x6 u v : Value} (hb : Below w.heap.size w W) (h4 : Blk W w.heap.size [z0, z1, z2, z3, z4, z5, z6] 26) (h5 : Blk W (w.heap.size + 1) [y0, y1] 35) {V0 V1 : World}
 (e0 : V0 = sev W w.heap.size x0 x1 x2 x3 x4 x5 x6) (e1 : V1 = (V0.setCell ⟨w.heap.size + 1, 0, none⟩ u).setCell ⟨w.heap.size + 1, 1, none⟩ v) :
 Blk V0 (w.heap.size + 1) [y0, y1] 35 ∧ (∀ b, b ≠ w.heap.size → V0.heap[b]? = W.heap[b]?) ∧ V0.heap.size = W.heap.size ∧
 Blk V1 w.heap.size [x0, x1, x2, x3, x4, x5, x6] 26 ∧ Blk V1 (w.heap.size + 1) [u, v] 35 ∧ (∀ b, b ≠ w.heap.size → b ≠ w.heap.size + 1 → V1.heap[b]? = W.heap[b]?) ∧ V1.heap.size = W.heap.size ∧ Below w.heap.size w V1 := by
 have hq : ∀ b, b ≠ w.heap.size → V0.heap[b]? = W.heap[b]? := fun b hb => by rw [e0]; exact sev_block (fun e => hb e.symm)
 have hz : V0.heap.size = W.heap.size := by rw [e0]; exact sev_size
 have g5 : Blk V0 (w.heap.size + 1) [y0, y1] 35 := (hq _ (by omega)).trans h5
 have g4 : Blk V0 w.heap.size [x0, x1, x2, x3, x4, x5, x6] 26 := by rw [e0]; exact Blk.sev h4
 have hr : ∀ (X : World) (o : Nat) (x : Value) (b : Nat), b ≠ w.heap.size + 1 → (X.setCell ⟨w.heap.size + 1, o, none⟩ x).heap[b]? = X.heap[b]? := fun X o x b hb => Below.heap_setCell _ _ _ _ (by simpa using hb)
 have hA := sev_side W w.heap.size x0 x1 x2 x3 x4 x5 x6
 rw [← e0] at hA
 have hB0 : Below w.heap.size w V0 := ⟨hA.os.trans hb.os, hA.tape.trans hb.tape, hA.output.trans hb.output, Nat.le_trans hb.size hA.size, fun i hi => (hq i (by omega)).trans (hb.block i hi)⟩
 refine ⟨g5, hq, hz, ?_, ?_, fun b h1 h2 => ?_, ?_, ?_⟩
 · rw [e1]; exact (g4.other (by omega) _ _).other (by omega) _ _
 · rw [e1]; have := (g5.set 0 u).set 1 v; simpa using this
 · rw [e1, hr _ _ _ _ h2, hr _ _ _ _ h2]; exact hq b h1
 · rw [e1]; simpa [World.setCell] using hz
 · rw [e1]; exact (hB0.setCell (show w.heap.size ≤ w.heap.size + 1 by omega) _).setCell (show w.heap.size ≤ w.heap.size + 1 by omega) _
theorem parseX_calls (s : Txt) (w : World) (ht : Tab w) : Calls Tryz.prog 16 #[.string s] w (Reads w (parseX s)) := by
 obtain ⟨W2, eW⟩ : ∃ W2, (w.alloc (.cells #[.int .i64 0, .int .i64 0, .int .i64 0, .int .i64 0, .string ⟨#[]⟩, .slice none 0 0, .slice none 0 0] 26)).alloc (.cells #[.int .i64 0, .int .i64 0] 35) = W2 := ⟨_, rfl⟩
 obtain ⟨z2, hb2, m0, m1⟩ := boxes2 eW
 have hB2 : Blk W2 w.heap.size zeroC 26 := by rw [← eW]; exact (Blk.new _ _ _).below ((Below.refl _ _).alloc (Nat.le_refl _) _)
 have hC2 : Blk W2 (w.heap.size + 1) [.int .i64 0, .int .i64 0] 35 := by rw [← eW]; exact Blk.new2 _ _ _ _ _
 have HB2 := Hd hb2
 have HE2 := Hd hB2
 have HF2 := Hd hC2
 have HTB := Hd ht
 have HRC := Hd (readX_calls s W2 (ht.below hb2))
 have HPX : Hid (parseX s = if (readX s).2.1 = 0 then (if formedS (readX s).1 then readX s else (Ex.zero, 2, 0)) else readX s) := rfl
 clear hb2 m0 m1 hB2 hC2 ht
 generalize readX s = r at *
 obtain ⟨x, c, a⟩ := r
 go_enter Tryz.func16, Tryz.ntmps16
 go_wp2_with (fail)
 clear eW
 refine HRC.out.mono ?_
 rintro e w3 ⟨v3, rfl, hx3, hb3⟩
 have HX3 := Hd hx3
 obtain ⟨vl, va, rfl, hvl, hva⟩ := hx3
 obtain ⟨pl, cl, rfl, _⟩ := hvl
 obtain ⟨pa, ca, rfl, _⟩ := hva
 obtain ⟨W4, eW4⟩ : ∃ W4, (w3.alloc (.cells #[.int .i64 x.kind, .int .i64 x.at_, .int .i64 x.num, .int .i64 x.ty, .string x.name, .slice pl x.lab.length cl, .slice pa x.kids.length ca] 26)).alloc (.cells #[.int .i64 c, .int .i64 a] 35) = W4 := ⟨_, rfl⟩
 obtain ⟨z4, hb4, m0, m1⟩ := boxes2 eW4
 have HBX : Hid (Blk W4 w3.heap.size [.int .i64 x.kind, .int .i64 x.at_, .int .i64 x.num, .int .i64 x.ty, .string x.name, .slice pl x.lab.length cl, .slice pa x.kids.length ca] 26) := by rw [← eW4]; exact (Blk.new _ _ _).below ((Below.refl _ _).alloc (Nat.le_refl _) _)
 have HBF : Hid (Blk W4 (w3.heap.size + 1) [.int .i64 c, .int .i64 a] 35) := by rw [← eW4]; exact Blk.new2 _ _ _ _ _
 have hb34 := hb3.trans (hb4.mono hb3.size)
 have HE4 := Hd (HE2.out.below hb34)
 have HF4 := Hd (HF2.out.below hb34)
 have HB4 := Hd (HB2.out.trans (hb34.mono HB2.out.size))
 have HN3 : Hid (w.heap.size + 1 < w3.heap.size) := (HF2.out.below hb3).lt
 have HX4 := Hd (HX3.out.stays (since_below hb4))
 have HW2 : Hid (W2.heap.size = w.heap.size + 2) := z2
 have HFM := Hd (formed_calls x _ W4 (HX4.out.stays (hide_keeps _ _)) (HTB.out.below HB4.out))
 obtain ⟨q0, q1, q2, q3, q4, q5, q6⟩ := HBX.out.cells7
 have r0 := HBF.out.cell 0
 have r1 := HBF.out.cell 1
 simp only [List.getElem?_cons_zero, List.getElem?_cons_succ] at r0 r1
 clear hb3 hb4 hb34 m0 m1 z4 HRC
 by_cases hc : c = 0
 · have hc1 : (c == 0) = true := by simp [hc]
   have HC0 := Hd hc
   clear hc
   cases hf : formedS x with
   | false =>
     rw [hf] at HFM
     have HPY : Hid (parseX s = (Ex.zero, 2, 0)) := by unfold Hid; rw [HPX.out]; show (if c = 0 then _ else _) = _; rw [if_pos HC0.out]; show (if formedS x = true then _ else _) = _; rw [hf]; rfl
     clear hf HPX
     go_wp2_with (fail)
     clear eW4
     refine HFM.out.mono ?_
     rintro e w5 ⟨rfl, hb5⟩
     have HE5 := Hd (HE4.out.below hb5)
     have HF5 := Hd (HF4.out.below hb5)
     have HB5 := Hd (HB4.out.trans (hb5.mono HB4.out.size))
     clear q0 q1 q2 q3 q4 q5 q6 r0 r1 hb5
     obtain ⟨q0, q1, q2, q3, q4, q5, q6⟩ := HE5.out.cells7
     obtain ⟨f0, f1, f2, f3, f4, f5, f6⟩ := HE5.out.fz7
     have r0 := HF5.out.cell 0
     have r1 := HF5.out.cell 1
     simp only [List.getElem?_cons_zero, List.getElem?_cons_succ] at r0 r1
     have k0 := HF5.out.fz 0
     have k1 := HF5.out.fz 1
     have hn1 : ¬ w.heap.size = w.heap.size + 1 := by omega
     obtain ⟨V0, eV0⟩ : ∃ V0, sev w5 w.heap.size (.int .i64 0) (.int .i64 0) (.int .i64 0) (.int .i64 0) (.string ⟨#[]⟩) (.slice none 0 0) (.slice none 0 0) = V0 := ⟨_, rfl⟩
     obtain ⟨V1, eV1⟩ : ∃ V1, (V0.setCell ⟨w.heap.size + 1, 0, none⟩ (.int .i64 2)).setCell ⟨w.heap.size + 1, 1, none⟩ (.int .i64 0) = V1 := ⟨_, rfl⟩
     obtain ⟨_, _, _, g4, g5, _, _, g8⟩ := pair_set HB5.out HE5.out HF5.out eV0.symm eV1.symm
     have HG4 := Hd g4
     have HG5 := Hd g5
     have HG8 := Hd g8
     have EV0 := Hd eV0
     have EV1 := Hd eV1
     clear g4 g5 g8 eV0 eV1
     go_wp2_with (fail)
     rw [HPY.out]
     have h1 := And.intro HG4.out (And.intro HG5.out HG8.out)
     rw [← EV1.out, ← EV0.out] at h1
     unfold sev at h1
     exact bodyPost_ret (pair_done _ rfl rfl h1.1 h1.2.1) rfl ⟨_, rfl, exIs_zero _, h1.2.2⟩
   | true =>
     rw [hf] at HFM
     have HPY : Hid (parseX s = (x, c, a)) := by unfold Hid; rw [HPX.out]; show (if c = 0 then _ else _) = _; rw [if_pos HC0.out]; show (if formedS x = true then _ else _) = _; rw [hf]; rfl
     clear hf HPX
     go_wp2_with (fail)
     clear eW4
     refine HFM.out.mono ?_
     rintro e w5 ⟨rfl, hb5⟩
     have HE5 := Hd (HE4.out.below hb5)
     have HF5 := Hd (HF4.out.below hb5)
     have HB5 := Hd (HB4.out.trans (hb5.mono HB4.out.size))
     have HBX5 := Hd (HBX.out.below hb5)
     have HBF5 := Hd (HBF.out.below hb5)
     have HX5 := Hd (HX4.out.stays (since_below hb5))
     clear q0 q1 q2 q3 q4 q5 q6 r0 r1 hb5
     have HS0 : Hid (∀ V : World, (∀ b, b = w3.heap.size ∨ b = w3.heap.size + 1 → V.heap[b]? = w5.heap[b]?) → (V.cell? ⟨w3.heap.size, 0, none⟩ = some (.int .i64 x.kind) ∧ V.cell? ⟨w3.heap.size, 1, none⟩ = some (.int .i64 x.at_) ∧ V.cell? ⟨w3.heap.size, 2, none⟩ = some (.int .i64 x.num) ∧ V.cell? ⟨w3.heap.size, 3, none⟩ = some (.int .i64 x.ty) ∧ V.cell? ⟨w3.heap.size, 4, none⟩ = some (.string x.name) ∧ V.cell? ⟨w3.heap.size, 5, none⟩ = some (.slice pl x.lab.length cl) ∧ V.cell? ⟨w3.heap.size, 6, none⟩ = some (.slice pa x.kids.length ca) ∧ V.cell? ⟨w3.heap.size + 1, 0, none⟩ = some (.int .i64 c) ∧ V.cell? ⟨w3.heap.size + 1, 1, none⟩ = some (.int .i64 a))) := fun V h => by
      have b4 : Blk V w3.heap.size [.int .i64 x.kind, .int .i64 x.at_, .int .i64 x.num, .int .i64 x.ty, .string x.name, .slice pl x.lab.length cl, .slice pa x.kids.length ca] 26 := (h _ (.inl rfl)).trans HBX5.out
      have b5 : Blk V (w3.heap.size + 1) [.int .i64 c, .int .i64 a] 35 := (h _ (.inr rfl)).trans HBF5.out
      obtain ⟨p0, p1, p2, p3, p4, p5, p6⟩ := b4.cells7
      exact ⟨p0, p1, p2, p3, p4, p5, p6, b5.cell 0, b5.cell 1⟩
     obtain ⟨q0, q1, q2, q3, q4, q5, q6⟩ := HE5.out.cells7
     obtain ⟨f0, f1, f2, f3, f4, f5, f6⟩ := HE5.out.fz7
     have r0 := HF5.out.cell 0
     have r1 := HF5.out.cell 1
     simp only [List.getElem?_cons_zero, List.getElem?_cons_succ] at r0 r1
     have k0 := HF5.out.fz 0
     have k1 := HF5.out.fz 1
     have hn1 : ¬ w.heap.size = w.heap.size + 1 := by omega
     obtain ⟨V0, eV0⟩ : ∃ V0, sev w5 w.heap.size (.int .i64 x.kind) (.int .i64 x.at_) (.int .i64 x.num) (.int .i64 x.ty) (.string x.name) (.slice pl x.lab.length cl) (.slice pa x.kids.length ca) = V0 := ⟨_, rfl⟩
     obtain ⟨V1, eV1⟩ : ∃ V1, (V0.setCell ⟨w.heap.size + 1, 0, none⟩ (.int .i64 c)).setCell ⟨w.heap.size + 1, 1, none⟩ (.int .i64 a) = V1 := ⟨_, rfl⟩
     obtain ⟨_, hq0, hz0, g4, g5, hq1, hz1, g8⟩ := pair_set HB5.out HE5.out HF5.out eV0.symm eV1.symm
     have HK1 := Hd (HS0.out w5.drew (fun b _ => rfl))
     have hK2 := HS0.out V0.drew (fun b hb => hq0 b (by have h1 := HN3.out; omega))
     have hK3 := HS0.out V1.drew (fun b hb => hq1 b (by have h1 := HN3.out; omega) (by have h1 := HN3.out; omega))
     have hXF : ExIs (since w.heap.size V1.drew) x (.agg #[.int .i64 x.kind, .int .i64 x.at_, .int .i64 x.num, .int .i64 x.ty, .string x.name, .slice pl x.lab.length cl, .slice pa x.kids.length ca]) := HX5.out.stays ((keeps_hide (q := fun b => decide (b < W2.heap.size)) (by show w5.heap.size ≤ V1.heap.size; rw [hz1]; exact Nat.le_refl _) fun b hb hp => ⟨hp, hq1 b (by have h1 := HW2.out; simp at hp; omega) (by have h1 := HW2.out; simp at hp; omega)⟩ : Keeps (since W2.heap.size w5) (since W2.heap.size V1.drew)).trans (since_mono _ (by have h1 := HW2.out; omega)))
     have hG : Blk V1.drew w.heap.size [.int .i64 x.kind, .int .i64 x.at_, .int .i64 x.num, .int .i64 x.ty, .string x.name, .slice pl x.lab.length cl, .slice pa x.kids.length ca] 26 ∧ Blk V1.drew (w.heap.size + 1) [.int .i64 c, .int .i64 a] 35 ∧ Below w.heap.size w V1.drew ∧ ExIs (since w.heap.size V1.drew) x (.agg #[.int .i64 x.kind, .int .i64 x.at_, .int .i64 x.num, .int .i64 x.ty, .string x.name, .slice pl x.lab.length cl, .slice pa x.kids.length ca]) := ⟨g4, g5, g8.drew, hXF⟩
     rw [← eV1, ← eV0] at hK3 hG
     rw [← eV0] at hK2
     unfold sev at hK2 hK3 hG
     have HK2 := Hd hK2
     have HK3 := Hd hK3
     have HG := Hd hG
     clear hK2 hK3 hG hXF g4 g5 g8 hq0 hq1 hz0 hz1 eV0 eV1
     go_wp2_with (fail)
     go_region_held3 (fun w' => w'.cell? ⟨w3.heap.size, 0, none⟩ = some (.int .i64 x.kind) ∧ w'.cell? ⟨w3.heap.size, 1, none⟩ = some (.int .i64 x.at_) ∧ w'.cell? ⟨w3.heap.size, 2, none⟩ = some (.int .i64 x.num) ∧ w'.cell? ⟨w3.heap.size, 3, none⟩ = some (.int .i64 x.ty) ∧ w'.cell? ⟨w3.heap.size, 4, none⟩ = some (.string x.name) ∧ w'.cell? ⟨w3.heap.size, 5, none⟩ = some (.slice pl x.lab.length cl) ∧ w'.cell? ⟨w3.heap.size, 6, none⟩ = some (.slice pa x.kids.length ca) ∧ w'.cell? ⟨w3.heap.size + 1, 0, none⟩ = some (.int .i64 c) ∧ w'.cell? ⟨w3.heap.size + 1, 1, none⟩ = some (.int .i64 a))
      (first | with_reducible exact HK1.out | with_reducible exact HK2.out | with_reducible exact HK3.out)
      (fail)
     all_goals go_wp2_with (fail)
     all_goals rw [HPY.out]
     all_goals exact bodyPost_ret (pair_done _ rfl rfl HG.out.1 HG.out.2.1) rfl ⟨_, rfl, HG.out.2.2.2, HG.out.2.2.1⟩
 · have hc1 : (c == 0) = false := by simp [hc]
   have HPY : Hid (parseX s = (x, c, a)) := by unfold Hid; rw [HPX.out]; show (if c = 0 then _ else _) = _; rw [if_neg hc]
   have HE5 := HE4
   have HF5 := HF4
   have HB5 := HB4
   have HBX5 := HBX
   have HBF5 := HBF
   have HX5 := HX4
   clear hc HPX
   go_wp2_with (fail)
   clear eW4 q0 q1 q2 q3 q4 q5 q6 r0 r1
   have HS0 : Hid (∀ V : World, (∀ b, b = w3.heap.size ∨ b = w3.heap.size + 1 → V.heap[b]? = W4.heap[b]?) → (V.cell? ⟨w3.heap.size, 0, none⟩ = some (.int .i64 x.kind) ∧ V.cell? ⟨w3.heap.size, 1, none⟩ = some (.int .i64 x.at_) ∧ V.cell? ⟨w3.heap.size, 2, none⟩ = some (.int .i64 x.num) ∧ V.cell? ⟨w3.heap.size, 3, none⟩ = some (.int .i64 x.ty) ∧ V.cell? ⟨w3.heap.size, 4, none⟩ = some (.string x.name) ∧ V.cell? ⟨w3.heap.size, 5, none⟩ = some (.slice pl x.lab.length cl) ∧ V.cell? ⟨w3.heap.size, 6, none⟩ = some (.slice pa x.kids.length ca) ∧ V.cell? ⟨w3.heap.size + 1, 0, none⟩ = some (.int .i64 c) ∧ V.cell? ⟨w3.heap.size + 1, 1, none⟩ = some (.int .i64 a))) := fun V h => by
    have b4 : Blk V w3.heap.size [.int .i64 x.kind, .int .i64 x.at_, .int .i64 x.num, .int .i64 x.ty, .string x.name, .slice pl x.lab.length cl, .slice pa x.kids.length ca] 26 := (h _ (.inl rfl)).trans HBX5.out
    have b5 : Blk V (w3.heap.size + 1) [.int .i64 c, .int .i64 a] 35 := (h _ (.inr rfl)).trans HBF5.out
    obtain ⟨p0, p1, p2, p3, p4, p5, p6⟩ := b4.cells7
    exact ⟨p0, p1, p2, p3, p4, p5, p6, b5.cell 0, b5.cell 1⟩
   obtain ⟨q0, q1, q2, q3, q4, q5, q6⟩ := HE5.out.cells7
   obtain ⟨f0, f1, f2, f3, f4, f5, f6⟩ := HE5.out.fz7
   have r0 := HF5.out.cell 0
   have r1 := HF5.out.cell 1
   simp only [List.getElem?_cons_zero, List.getElem?_cons_succ] at r0 r1
   have k0 := HF5.out.fz 0
   have k1 := HF5.out.fz 1
   have hn1 : ¬ w.heap.size = w.heap.size + 1 := by omega
   obtain ⟨V0, eV0⟩ : ∃ V0, sev W4 w.heap.size (.int .i64 x.kind) (.int .i64 x.at_) (.int .i64 x.num) (.int .i64 x.ty) (.string x.name) (.slice pl x.lab.length cl) (.slice pa x.kids.length ca) = V0 := ⟨_, rfl⟩
   obtain ⟨V1, eV1⟩ : ∃ V1, (V0.setCell ⟨w.heap.size + 1, 0, none⟩ (.int .i64 c)).setCell ⟨w.heap.size + 1, 1, none⟩ (.int .i64 a) = V1 := ⟨_, rfl⟩
   obtain ⟨_, hq0, hz0, g4, g5, hq1, hz1, g8⟩ := pair_set HB5.out HE5.out HF5.out eV0.symm eV1.symm
   have HK1 := Hd (HS0.out W4.drew (fun b _ => rfl))
   have hK2 := HS0.out V0.drew (fun b hb => hq0 b (by have h1 := HN3.out; omega))
   have hK3 := HS0.out V1.drew (fun b hb => hq1 b (by have h1 := HN3.out; omega) (by have h1 := HN3.out; omega))
   have hXF : ExIs (since w.heap.size V1.drew) x (.agg #[.int .i64 x.kind, .int .i64 x.at_, .int .i64 x.num, .int .i64 x.ty, .string x.name, .slice pl x.lab.length cl, .slice pa x.kids.length ca]) := HX5.out.stays ((keeps_hide (q := fun b => decide (b < W2.heap.size)) (by show W4.heap.size ≤ V1.heap.size; rw [hz1]; exact Nat.le_refl _) fun b hb hp => ⟨hp, hq1 b (by have h1 := HW2.out; simp at hp; omega) (by have h1 := HW2.out; simp at hp; omega)⟩ : Keeps (since W2.heap.size W4) (since W2.heap.size V1.drew)).trans (since_mono _ (by have h1 := HW2.out; omega)))
   have hG : Blk V1.drew w.heap.size [.int .i64 x.kind, .int .i64 x.at_, .int .i64 x.num, .int .i64 x.ty, .string x.name, .slice pl x.lab.length cl, .slice pa x.kids.length ca] 26 ∧ Blk V1.drew (w.heap.size + 1) [.int .i64 c, .int .i64 a] 35 ∧ Below w.heap.size w V1.drew ∧ ExIs (since w.heap.size V1.drew) x (.agg #[.int .i64 x.kind, .int .i64 x.at_, .int .i64 x.num, .int .i64 x.ty, .string x.name, .slice pl x.lab.length cl, .slice pa x.kids.length ca]) := ⟨g4, g5, g8.drew, hXF⟩
   rw [← eV1, ← eV0] at hK3 hG
   rw [← eV0] at hK2
   unfold sev at hK2 hK3 hG
   have HK2 := Hd hK2
   have HK3 := Hd hK3
   have HG := Hd hG
   clear hK2 hK3 hG hXF g4 g5 g8 hq0 hq1 hz0 hz1 eV0 eV1
   go_wp2_with (fail)
   go_region_held3 (fun w' => w'.cell? ⟨w3.heap.size, 0, none⟩ = some (.int .i64 x.kind) ∧ w'.cell? ⟨w3.heap.size, 1, none⟩ = some (.int .i64 x.at_) ∧ w'.cell? ⟨w3.heap.size, 2, none⟩ = some (.int .i64 x.num) ∧ w'.cell? ⟨w3.heap.size, 3, none⟩ = some (.int .i64 x.ty) ∧ w'.cell? ⟨w3.heap.size, 4, none⟩ = some (.string x.name) ∧ w'.cell? ⟨w3.heap.size, 5, none⟩ = some (.slice pl x.lab.length cl) ∧ w'.cell? ⟨w3.heap.size, 6, none⟩ = some (.slice pa x.kids.length ca) ∧ w'.cell? ⟨w3.heap.size + 1, 0, none⟩ = some (.int .i64 c) ∧ w'.cell? ⟨w3.heap.size + 1, 1, none⟩ = some (.int .i64 a))
    (first | with_reducible exact HK1.out | with_reducible exact HK2.out | with_reducible exact HK3.out)
    (fail)
   all_goals go_wp2_with (fail)
   all_goals rw [HPY.out]
   all_goals exact bodyPost_ret (pair_done _ rfl rfl HG.out.1 HG.out.2.1) rfl ⟨_, rfl, HG.out.2.2.2, HG.out.2.2.1⟩
end
section
open Go.RowKit
theorem pairR_done {w V : World} {c a : Int} {x0 x1 x2 x3 x4 x5 x6 : Value} (tmps : Array Value) (ht2 : tmps[4]? = some (.pointer (some ⟨w.heap.size, 0, none⟩))) (ht3 : tmps[5]? = some (.pointer (some ⟨w.heap.size + 1, 0, none⟩)))
 (h4 : Blk V w.heap.size [x0, x1, x2, x3, x4, x5, x6] 26) (h5 : Blk V (w.heap.size + 1) [.int .i64 c, .int .i64 a] 35) :
 (results Tryz.f70 tmps).run Tryz.prog V = .ok (.tuple #[.agg #[x0, x1, x2, x3, x4, x5, x6], .agg #[.int .i64 c, .int .i64 a]]) V := by
 obtain ⟨q0, q1, q2, q3, q4, q5, q6⟩ := h4.cells7
 have r0 := h5.cell 0
 have r1 := h5.cell 1
 simp only [List.getElem?_cons_zero, List.getElem?_cons_succ] at r0 r1
 simp [results, Tryz.results70, go_sem, ht2, ht3, q0, q1, q2, q3, q4, q5, q6, r0, r1]
theorem readR_none (s : Txt) (w : World) (hc : (scanOf s).2.1 ≠ 0) (htok : ∀ W, Below w.heap.size w W → Calls Tryz.prog 144 #[.string s] W fun e w' => ∃ y, e = .returned (.tuple #[y, .agg #[.int .i64 (scanOf s).2.1, .int .i64 (scanOf s).2.2]]) ∧ Toks w' (scanOf s).1 y ∧ Below W.heap.size W w') :
 Calls Tryz.prog 70 #[.string s, .func (.func 71) #[] #[]] w (Reads w (readX s)) := by
 obtain ⟨W2, eW⟩ : ∃ W2, (w.alloc (.cells #[.int .i64 0, .int .i64 0, .int .i64 0, .int .i64 0, .string ⟨#[]⟩, .slice none 0 0, .slice none 0 0] 26)).alloc (.cells #[.int .i64 0, .int .i64 0] 35) = W2 := ⟨_, rfl⟩
 obtain ⟨z2, hb2, m0, m1⟩ := boxes2 eW
 have hB2 : Blk W2 w.heap.size zeroC 26 := by rw [← eW]; exact (Blk.new _ _ _).below ((Below.refl _ _).alloc (Nat.le_refl _) _)
 have hC2 : Blk W2 (w.heap.size + 1) [.int .i64 0, .int .i64 0] 35 := by rw [← eW]; exact Blk.new2 _ _ _ _ _
 have HB2 := Hd hb2
 have HE2 := Hd hB2
 have HF2 := Hd hC2
 have HTOK := Hd (htok W2 hb2)
 have HPX : Hid (readX s = (Ex.zero, (scanOf s).2.1, (scanOf s).2.2)) := by unfold Hid readX; rw [if_neg hc]
 clear hb2 m0 m1 hB2 hC2 htok
 generalize (scanOf s).2.1 = c at *
 generalize (scanOf s).2.2 = a at *
 have hc1 : (c != 0) = true := bne_iff_ne.2 hc
 have hc2 : (c == 0) = false := beq_eq_false_iff_ne.2 hc
 clear hc
 go_enter Tryz.func70, Tryz.ntmps70
 go_wp2_with (fail)
 clear eW
 refine HTOK.out.mono ?_
 rintro e w3 ⟨tv, rfl, htk, hb3⟩
 have HE3 := Hd (HE2.out.below hb3)
 have hF3 := HF2.out.below hb3
 have HB3 := Hd (HB2.out.trans (hb3.mono HB2.out.size))
 have j0 := hF3.cell 0
 have j1 := hF3.cell 1
 simp only [List.getElem?_cons_zero, List.getElem?_cons_succ] at j0 j1
 have l0 := hF3.fz 0
 have l1 := hF3.fz 1
 obtain ⟨w5, eW5⟩ : ∃ w5, (w3.setCell ⟨w.heap.size + 1, 0, none⟩ (.int .i64 c)).setCell ⟨w.heap.size + 1, 1, none⟩ (.int .i64 a) = w5 := ⟨_, rfl⟩
 have HF5 : Hid (Blk w5 (w.heap.size + 1) [.int .i64 c, .int .i64 a] 35) := by
  have := (hF3.set 0 (.int .i64 c)).set 1 (.int .i64 a)
  unfold Hid
  rw [← eW5]
  simpa using this
 have HE5 : Hid (Blk w5 w.heap.size zeroC 26) := by unfold Hid; rw [← eW5]; exact (HE3.out.other (by omega) _ _).other (by omega) _ _
 have HB5 : Hid (Below w.heap.size w w5) := by unfold Hid; rw [← eW5]; exact (HB3.out.setCell (show w.heap.size ≤ w.heap.size + 1 by omega) _).setCell (show w.heap.size ≤ w.heap.size + 1 by omega) _
 have s0 := HF5.out.cell 0
 simp only [List.getElem?_cons_zero] at s0
 clear hF3 hb3 htk
 go_upto_region 3 with fail
 clear eW5 j0 j1 l0 l1 s0
 obtain ⟨q0, q1, q2, q3, q4, q5, q6⟩ := HE5.out.cells7
 obtain ⟨f0, f1, f2, f3, f4, f5, f6⟩ := HE5.out.fz7
 have r0 := HF5.out.cell 0
 have r1 := HF5.out.cell 1
 simp only [List.getElem?_cons_zero, List.getElem?_cons_succ] at r0 r1
 have k0 := HF5.out.fz 0
 have k1 := HF5.out.fz 1
 have hn1 : ¬ w.heap.size = w.heap.size + 1 := by omega
 obtain ⟨V0, eV0⟩ : ∃ V0, sev w5 w.heap.size (.int .i64 0) (.int .i64 0) (.int .i64 0) (.int .i64 0) (.string ⟨#[]⟩) (.slice none 0 0) (.slice none 0 0) = V0 := ⟨_, rfl⟩
 obtain ⟨V1, eV1⟩ : ∃ V1, (V0.setCell ⟨w.heap.size + 1, 0, none⟩ (.int .i64 c)).setCell ⟨w.heap.size + 1, 1, none⟩ (.int .i64 a) = V1 := ⟨_, rfl⟩
 obtain ⟨h0f, hq0, hz0, g4, g5, hq1, hz1, g8⟩ := pair_set HB5.out HE5.out HF5.out eV0.symm eV1.symm
 have h0r : Blk V0 w.heap.size [.int .i64 0, .int .i64 0, .int .i64 0, .int .i64 0, .string ⟨#[]⟩, .slice none 0 0, .slice none 0 0] 26 := by rw [← eV0]; exact Blk.sev HE5.out
 have HK1 : Hid (w5.drew.cell? ⟨w.heap.size, 0, none⟩ = some (.int .i64 0) ∧ w5.drew.cell? ⟨w.heap.size, 1, none⟩ = some (.int .i64 0) ∧ w5.drew.cell? ⟨w.heap.size, 2, none⟩ = some (.int .i64 0) ∧ w5.drew.cell? ⟨w.heap.size, 3, none⟩ = some (.int .i64 0) ∧ w5.drew.cell? ⟨w.heap.size, 4, none⟩ = some (.string ⟨#[]⟩) ∧ w5.drew.cell? ⟨w.heap.size, 5, none⟩ = some (.slice none 0 0) ∧ w5.drew.cell? ⟨w.heap.size, 6, none⟩ = some (.slice none 0 0) ∧ w5.drew.cell? ⟨w.heap.size + 1, 0, none⟩ = some (.int .i64 c) ∧ w5.drew.cell? ⟨w.heap.size + 1, 1, none⟩ = some (.int .i64 a)) := ⟨HE5.out.cell 0, HE5.out.cell 1, HE5.out.cell 2, HE5.out.cell 3, HE5.out.cell 4, HE5.out.cell 5, HE5.out.cell 6, HF5.out.cell 0, HF5.out.cell 1⟩
 have hK2 : V0.drew.cell? ⟨w.heap.size, 0, none⟩ = some (.int .i64 0) ∧ V0.drew.cell? ⟨w.heap.size, 1, none⟩ = some (.int .i64 0) ∧ V0.drew.cell? ⟨w.heap.size, 2, none⟩ = some (.int .i64 0) ∧ V0.drew.cell? ⟨w.heap.size, 3, none⟩ = some (.int .i64 0) ∧ V0.drew.cell? ⟨w.heap.size, 4, none⟩ = some (.string ⟨#[]⟩) ∧ V0.drew.cell? ⟨w.heap.size, 5, none⟩ = some (.slice none 0 0) ∧ V0.drew.cell? ⟨w.heap.size, 6, none⟩ = some (.slice none 0 0) ∧ V0.drew.cell? ⟨w.heap.size + 1, 0, none⟩ = some (.int .i64 c) ∧ V0.drew.cell? ⟨w.heap.size + 1, 1, none⟩ = some (.int .i64 a) := ⟨h0r.cell 0, h0r.cell 1, h0r.cell 2, h0r.cell 3, h0r.cell 4, h0r.cell 5, h0r.cell 6, h0f.cell 0, h0f.cell 1⟩
 have hK3 : V1.drew.cell? ⟨w.heap.size, 0, none⟩ = some (.int .i64 0) ∧ V1.drew.cell? ⟨w.heap.size, 1, none⟩ = some (.int .i64 0) ∧ V1.drew.cell? ⟨w.heap.size, 2, none⟩ = some (.int .i64 0) ∧ V1.drew.cell? ⟨w.heap.size, 3, none⟩ = some (.int .i64 0) ∧ V1.drew.cell? ⟨w.heap.size, 4, none⟩ = some (.string ⟨#[]⟩) ∧ V1.drew.cell? ⟨w.heap.size, 5, none⟩ = some (.slice none 0 0) ∧ V1.drew.cell? ⟨w.heap.size, 6, none⟩ = some (.slice none 0 0) ∧ V1.drew.cell? ⟨w.heap.size + 1, 0, none⟩ = some (.int .i64 c) ∧ V1.drew.cell? ⟨w.heap.size + 1, 1, none⟩ = some (.int .i64 a) := ⟨g4.cell 0, g4.cell 1, g4.cell 2, g4.cell 3, g4.cell 4, g4.cell 5, g4.cell 6, g5.cell 0, g5.cell 1⟩
 have hXF : ExIs (since w.heap.size V1.drew) Ex.zero (.agg #[.int .i64 0, .int .i64 0, .int .i64 0, .int .i64 0, .string ⟨#[]⟩, .slice none 0 0, .slice none 0 0]) := exIs_zero _
 have hG : Blk V1.drew w.heap.size [.int .i64 0, .int .i64 0, .int .i64 0, .int .i64 0, .string ⟨#[]⟩, .slice none 0 0, .slice none 0 0] 26 ∧ Blk V1.drew (w.heap.size + 1) [.int .i64 c, .int .i64 a] 35 ∧ Below w.heap.size w V1.drew ∧ ExIs (since w.heap.size V1.drew) Ex.zero (.agg #[.int .i64 0, .int .i64 0, .int .i64 0, .int .i64 0, .string ⟨#[]⟩, .slice none 0 0, .slice none 0 0]) := ⟨g4, g5, g8.drew, hXF⟩
 rw [← eV1, ← eV0] at hK3 hG
 rw [← eV0] at hK2
 unfold sev at hK2 hK3 hG
 have HK2 := Hd hK2
 have HK3 := Hd hK3
 have HG := Hd hG
 clear hK2 hK3 hG hXF g4 g5 g8 hq0 hq1 hz0 hz1 eV0 eV1 h0f h0r
 go_wp2_with (fail)
 go_region_held3 (fun w' => w'.cell? ⟨w.heap.size, 0, none⟩ = some (.int .i64 0) ∧ w'.cell? ⟨w.heap.size, 1, none⟩ = some (.int .i64 0) ∧ w'.cell? ⟨w.heap.size, 2, none⟩ = some (.int .i64 0) ∧ w'.cell? ⟨w.heap.size, 3, none⟩ = some (.int .i64 0) ∧ w'.cell? ⟨w.heap.size, 4, none⟩ = some (.string ⟨#[]⟩) ∧ w'.cell? ⟨w.heap.size, 5, none⟩ = some (.slice none 0 0) ∧ w'.cell? ⟨w.heap.size, 6, none⟩ = some (.slice none 0 0) ∧ w'.cell? ⟨w.heap.size + 1, 0, none⟩ = some (.int .i64 c) ∧ w'.cell? ⟨w.heap.size + 1, 1, none⟩ = some (.int .i64 a))
  (first | with_reducible exact HK1.out | with_reducible exact HK2.out | with_reducible exact HK3.out)
  (fail)
 all_goals go_wp2_with (fail)
 all_goals rw [HPX.out]
 all_goals exact bodyPost_ret (pairR_done _ rfl rfl HG.out.1 HG.out.2.1) rfl ⟨_, rfl, HG.out.2.2.2, HG.out.2.2.1⟩
theorem readR_bad (s : Txt) (w : World) {T : List Tok} (hs : scanOf s = (T, 0, 0)) {c a : Int} (hq : exprL T (primP T s.size 12) 5 0 = .bad c a) (htok : ∀ W, Below w.heap.size w W → Calls Tryz.prog 144 #[.string s] W fun e w' => ∃ y, e = .returned (.tuple #[y, .agg #[.int .i64 0, .int .i64 0]]) ∧ Toks w' T y ∧ Below W.heap.size W w')
 (hsz : s.size ≤ 4000) (hex : ∀ (B : Nat) (tv : Value), TReads B T s.size tv 0 0 71 (exprL T (primP T s.size 12) 5)) :
 Calls Tryz.prog 70 #[.string s, .func (.func 71) #[] #[]] w (Reads w (readX s)) := by
 obtain ⟨W2, eW⟩ : ∃ W2, (w.alloc (.cells #[.int .i64 0, .int .i64 0, .int .i64 0, .int .i64 0, .string ⟨#[]⟩, .slice none 0 0, .slice none 0 0] 26)).alloc (.cells #[.int .i64 0, .int .i64 0] 35) = W2 := ⟨_, rfl⟩
 obtain ⟨z2, hb2, m0, m1⟩ := boxes2 eW
 have hB2 : Blk W2 w.heap.size zeroC 26 := by rw [← eW]; exact (Blk.new _ _ _).below ((Below.refl _ _).alloc (Nat.le_refl _) _)
 have hC2 : Blk W2 (w.heap.size + 1) [.int .i64 0, .int .i64 0] 35 := by rw [← eW]; exact Blk.new2 _ _ _ _ _
 have HB2 := Hd hb2
 have HE2 := Hd hB2
 have HF2 := Hd hC2
 have HTOK := Hd (htok W2 hb2)
 have HEX := Hd hex
 have HPX : Hid (readX s = (Ex.zero, c, a)) := by unfold Hid readX; simp only [hs, hq]; rfl
 have HRUN : Hid ((TS.go 0).run (exprL T (primP T s.size 12) 5) = .stop c a) := by unfold Hid; simp only [TS.run, hq]
 clear hb2 m0 m1 hB2 hC2 htok hex hq hs
 go_enter Tryz.func70, Tryz.ntmps70
 go_wp2_with (fail)
 clear eW
 refine HTOK.out.mono ?_
 rintro e w3 ⟨tv, rfl, htk, hb3⟩
 have htk' := htk
 obtain ⟨pt, ct, rfl, _⟩ := htk'
 have HE3 := Hd (HE2.out.below hb3)
 have hF3 := HF2.out.below hb3
 have HF3 := Hd hF3
 have HB3 := Hd (HB2.out.trans (hb3.mono HB2.out.size))
 have j0 := hF3.cell 0
 have j1 := hF3.cell 1
 simp only [List.getElem?_cons_zero, List.getElem?_cons_succ] at j0 j1
 have l0 := hF3.fz 0
 have l1 := hF3.fz 1
 have s1 : w3.setCell ⟨w.heap.size + 1, 0, none⟩ (.int .i64 0) = w3 := hF3.same rfl
 have s2 : w3.setCell ⟨w.heap.size + 1, 1, none⟩ (.int .i64 0) = w3 := hF3.same rfl
 obtain ⟨W6, eW6⟩ : ∃ W, w3.alloc (.cells #[.slice pt T.length ct, .int .i64 0, .int .i64 s.size, .int .i64 0, .int .i64 0, .int .i64 0, .int .i64 0] 177) = W := ⟨_, rfl⟩
 have hb6 : Below w3.heap.size w3 W6 := by rw [← eW6]; exact (Below.refl _ _).alloc (Nat.le_refl _) _
 have hX6 : Blk W6 w3.heap.size [.slice pt T.length ct, .int .i64 0, .int .i64 s.size, .int .i64 0, .int .i64 0, .int .i64 0, .int .i64 0] 177 := by rw [← eW6]; exact Blk.new _ _ _
 have hr6 : Txr W6 w3.heap.size T s.size (.slice pt T.length ct) (.go 0) 0 0 := ⟨hX6, htk.stays ⟨by rw [mask_size]; exact hb6.size, fun b o v hv => by
  rw [mask_cell, if_neg (by have := cell_lt hv; simp at this ⊢; omega)]
  exact (keeps_of_below hb6).2 _ _ _ hv⟩, fun c a e => by cases e⟩
 have HC6 := Hd (HEX.out _ _ _ _ hr6)
 have HE6 := Hd (HE3.out.below hb6)
 have HF6 := Hd (HF3.out.below hb6)
 have HB6 := Hd (HB3.out.trans (hb6.mono HB3.out.size))
 have HN6 : Hid (w.heap.size + 1 < w3.heap.size ∧ W6.heap.size = w3.heap.size + 1) := ⟨HF3.out.lt, by rw [← eW6]; simp⟩
 clear hF3 hb3 htk hb6 hX6 hr6
 go_wp2_with (fail)
 clear j0 j1 l0 l1 s1 s2 eW6
 refine HC6.out.mono ?_
 rintro e w7 ⟨ha7, v7, y, rfl, hr7, hx7, ht7⟩
 rw [HRUN.out] at hr7
 obtain ⟨pl, cl, pa, ca, rfl, _⟩ := hx7.cells
 obtain ⟨W8, eW8⟩ : ∃ W, w7.alloc (.cells #[.int .i64 y.kind, .int .i64 y.at_, .int .i64 y.num, .int .i64 y.ty, .string y.name, .slice pl y.lab.length cl, .slice pa y.kids.length ca] 26) = W := ⟨_, rfl⟩
 have hb8 : Below w7.heap.size w7 W8 := by rw [← eW8]; exact (Below.refl _ _).alloc (Nat.le_refl _) _
 have HX8 : Hid (Blk W8 w7.heap.size [.int .i64 y.kind, .int .i64 y.at_, .int .i64 y.num, .int .i64 y.ty, .string y.name, .slice pl y.lab.length cl, .slice pa y.kids.length ca] 26) := by rw [← eW8]; exact Blk.new _ _ _
 have HR8 := Hd (hr7.below hb8)
 have HE8 := Hd ((HE6.out.aside ha7 (by have := HN6.out; omega)).below hb8)
 have HF8 := Hd ((HF6.out.aside ha7 (by have := HN6.out; omega)).below hb8)
 have HB8 : Hid (Below w.heap.size w W8) := by
  have h1 : Below w.heap.size w w7 := ⟨ha7.os.trans HB6.out.os, ha7.tape.trans HB6.out.tape, ha7.output.trans HB6.out.output, Nat.le_trans HB6.out.size ha7.size, fun i hi => (ha7.block i (Nat.lt_of_lt_of_le hi HB6.out.size) (fun e => by simp at e; have := HN6.out; omega)).trans (HB6.out.block i hi)⟩
  exact h1.trans (hb8.mono h1.size)
 have HY8 : Hid (ExIs (since W6.heap.size W8) y (.agg #[.int .i64 y.kind, .int .i64 y.at_, .int .i64 y.num, .int .i64 y.ty, .string y.name, .slice pl y.lab.length cl, .slice pa y.kids.length ca])) := hx7.stays (keeps_hide hb8.size fun b hb hp => ⟨hp, hb8.block b hb⟩)
 have HN7 : Hid (W6.heap.size ≤ w7.heap.size) := ha7.size
 have c0 := HR8.out.c0
 have c1 := HR8.out.c1
 have c3 := HR8.out.c3
 clear hb8 ha7 hr7 hx7 ht7
 simp only [TS.c] at c3
 have hc : ¬ c = 0 := HR8.out.fine c a rfl
 have hc1 : (c != 0) = true := bne_iff_ne.2 hc
 have hc2 : (c == 0) = false := beq_eq_false_iff_ne.2 hc
 clear hc
 go_wp2_with (fail)
 clear eW8
 go_quiet (fail)
 obtain ⟨W9, eW9⟩ : ∃ W9, W8.drewN nq = W9 := ⟨_, rfl⟩
 have hb9 : Below W8.heap.size W8 W9 := by rw [← eW9]; exact below_drewN (Below.refl _ _) nq
 have HR9 := Hd (HR8.out.below hb9)
 have HE9 := Hd (HE8.out.below hb9)
 have HF9 := Hd (HF8.out.below hb9)
 have HB9 := Hd (HB8.out.trans (hb9.mono HB8.out.size))
 have hcf3 : W9.cell? ⟨w3.heap.size, 3, none⟩ = some (.int .i64 c) := HR9.out.c3
 have hcf4 : W9.cell? ⟨w3.heap.size, 4, none⟩ = some (.int .i64 a) := HR9.out.c4
 have HN3 := Hd HN6.out.1
 rw [eW9]
 clear eW9 hb9 c0 c1 c3
 go_upto_region 9 with fail
 obtain ⟨q0, q1, q2, q3, q4, q5, q6⟩ := HE9.out.cells7
 obtain ⟨f0, f1, f2, f3, f4, f5, f6⟩ := HE9.out.fz7
 have r0 := HF9.out.cell 0
 have r1 := HF9.out.cell 1
 simp only [List.getElem?_cons_zero, List.getElem?_cons_succ] at r0 r1
 have k0 := HF9.out.fz 0
 have k1 := HF9.out.fz 1
 have hn1 : ¬ w.heap.size = w.heap.size + 1 := by omega
 obtain ⟨V0, eV0⟩ : ∃ V0, sev W9 w.heap.size (.int .i64 0) (.int .i64 0) (.int .i64 0) (.int .i64 0) (.string ⟨#[]⟩) (.slice none 0 0) (.slice none 0 0) = V0 := ⟨_, rfl⟩
 obtain ⟨V1, eV1⟩ : ∃ V1, (V0.setCell ⟨w.heap.size + 1, 0, none⟩ (.int .i64 c)).setCell ⟨w.heap.size + 1, 1, none⟩ (.int .i64 a) = V1 := ⟨_, rfl⟩
 obtain ⟨h0f, hq0, hz0, g4, g5, hq1, hz1, g8⟩ := pair_set HB9.out HE9.out HF9.out eV0.symm eV1.symm
 have h0r : Blk V0 w.heap.size [.int .i64 0, .int .i64 0, .int .i64 0, .int .i64 0, .string ⟨#[]⟩, .slice none 0 0, .slice none 0 0] 26 := by rw [← eV0]; exact Blk.sev HE9.out
 have HK1 : Hid (W9.drew.cell? ⟨w.heap.size, 0, none⟩ = some (.int .i64 0) ∧ W9.drew.cell? ⟨w.heap.size, 1, none⟩ = some (.int .i64 0) ∧ W9.drew.cell? ⟨w.heap.size, 2, none⟩ = some (.int .i64 0) ∧ W9.drew.cell? ⟨w.heap.size, 3, none⟩ = some (.int .i64 0) ∧ W9.drew.cell? ⟨w.heap.size, 4, none⟩ = some (.string ⟨#[]⟩) ∧ W9.drew.cell? ⟨w.heap.size, 5, none⟩ = some (.slice none 0 0) ∧ W9.drew.cell? ⟨w.heap.size, 6, none⟩ = some (.slice none 0 0) ∧ W9.drew.cell? ⟨w3.heap.size, 3, none⟩ = some (.int .i64 c) ∧ W9.drew.cell? ⟨w3.heap.size, 4, none⟩ = some (.int .i64 a)) := ⟨HE9.out.cell 0, HE9.out.cell 1, HE9.out.cell 2, HE9.out.cell 3, HE9.out.cell 4, HE9.out.cell 5, HE9.out.cell 6, hcf3, hcf4⟩
 have hK2 : V0.drew.cell? ⟨w.heap.size, 0, none⟩ = some (.int .i64 0) ∧ V0.drew.cell? ⟨w.heap.size, 1, none⟩ = some (.int .i64 0) ∧ V0.drew.cell? ⟨w.heap.size, 2, none⟩ = some (.int .i64 0) ∧ V0.drew.cell? ⟨w.heap.size, 3, none⟩ = some (.int .i64 0) ∧ V0.drew.cell? ⟨w.heap.size, 4, none⟩ = some (.string ⟨#[]⟩) ∧ V0.drew.cell? ⟨w.heap.size, 5, none⟩ = some (.slice none 0 0) ∧ V0.drew.cell? ⟨w.heap.size, 6, none⟩ = some (.slice none 0 0) ∧ V0.drew.cell? ⟨w3.heap.size, 3, none⟩ = some (.int .i64 c) ∧ V0.drew.cell? ⟨w3.heap.size, 4, none⟩ = some (.int .i64 a) := ⟨h0r.cell 0, h0r.cell 1, h0r.cell 2, h0r.cell 3, h0r.cell 4, h0r.cell 5, h0r.cell 6, (World.cell?_of_block (a := ⟨w3.heap.size, 3, none⟩) (hq0 (w3.heap.size) (by have h1 := HN3.out; omega))).trans (hcf3), (World.cell?_of_block (a := ⟨w3.heap.size, 4, none⟩) (hq0 (w3.heap.size) (by have h1 := HN3.out; omega))).trans (hcf4)⟩
 have hK3 : V1.drew.cell? ⟨w.heap.size, 0, none⟩ = some (.int .i64 0) ∧ V1.drew.cell? ⟨w.heap.size, 1, none⟩ = some (.int .i64 0) ∧ V1.drew.cell? ⟨w.heap.size, 2, none⟩ = some (.int .i64 0) ∧ V1.drew.cell? ⟨w.heap.size, 3, none⟩ = some (.int .i64 0) ∧ V1.drew.cell? ⟨w.heap.size, 4, none⟩ = some (.string ⟨#[]⟩) ∧ V1.drew.cell? ⟨w.heap.size, 5, none⟩ = some (.slice none 0 0) ∧ V1.drew.cell? ⟨w.heap.size, 6, none⟩ = some (.slice none 0 0) ∧ V1.drew.cell? ⟨w3.heap.size, 3, none⟩ = some (.int .i64 c) ∧ V1.drew.cell? ⟨w3.heap.size, 4, none⟩ = some (.int .i64 a) := ⟨g4.cell 0, g4.cell 1, g4.cell 2, g4.cell 3, g4.cell 4, g4.cell 5, g4.cell 6, (World.cell?_of_block (a := ⟨w3.heap.size, 3, none⟩) (hq1 (w3.heap.size) (by have h1 := HN3.out; omega) (by have h1 := HN3.out; omega))).trans (hcf3), (World.cell?_of_block (a := ⟨w3.heap.size, 4, none⟩) (hq1 (w3.heap.size) (by have h1 := HN3.out; omega) (by have h1 := HN3.out; omega))).trans (hcf4)⟩
 have hXF : ExIs (since w.heap.size V1.drew) Ex.zero (.agg #[.int .i64 0, .int .i64 0, .int .i64 0, .int .i64 0, .string ⟨#[]⟩, .slice none 0 0, .slice none 0 0]) := exIs_zero _
 have hG : Blk V1.drew w.heap.size [.int .i64 0, .int .i64 0, .int .i64 0, .int .i64 0, .string ⟨#[]⟩, .slice none 0 0, .slice none 0 0] 26 ∧ Blk V1.drew (w.heap.size + 1) [.int .i64 c, .int .i64 a] 35 ∧ Below w.heap.size w V1.drew ∧ ExIs (since w.heap.size V1.drew) Ex.zero (.agg #[.int .i64 0, .int .i64 0, .int .i64 0, .int .i64 0, .string ⟨#[]⟩, .slice none 0 0, .slice none 0 0]) := ⟨g4, g5, g8.drew, hXF⟩
 rw [← eV1, ← eV0] at hK3 hG
 rw [← eV0] at hK2
 unfold sev at hK2 hK3 hG
 have HK2 := Hd hK2
 have HK3 := Hd hK3
 have HG := Hd hG
 clear hK2 hK3 hG hXF g4 g5 g8 hq0 hq1 hz0 hz1 eV0 eV1 h0f h0r
 go_wp2_with (fail)
 go_region_held3 (fun w' => w'.cell? ⟨w.heap.size, 0, none⟩ = some (.int .i64 0) ∧ w'.cell? ⟨w.heap.size, 1, none⟩ = some (.int .i64 0) ∧ w'.cell? ⟨w.heap.size, 2, none⟩ = some (.int .i64 0) ∧ w'.cell? ⟨w.heap.size, 3, none⟩ = some (.int .i64 0) ∧ w'.cell? ⟨w.heap.size, 4, none⟩ = some (.string ⟨#[]⟩) ∧ w'.cell? ⟨w.heap.size, 5, none⟩ = some (.slice none 0 0) ∧ w'.cell? ⟨w.heap.size, 6, none⟩ = some (.slice none 0 0) ∧ w'.cell? ⟨w3.heap.size, 3, none⟩ = some (.int .i64 c) ∧ w'.cell? ⟨w3.heap.size, 4, none⟩ = some (.int .i64 a))
  (first | with_reducible exact HK1.out | with_reducible exact HK2.out | with_reducible exact HK3.out)
  (fail)
 all_goals go_wp2_with (fail)
 all_goals rw [HPX.out]
 all_goals exact bodyPost_ret (pairR_done _ rfl rfl HG.out.1 HG.out.2.1) rfl ⟨_, rfl, HG.out.2.2.2, HG.out.2.2.1⟩
theorem readR_more (s : Txt) (w : World) {T : List Tok} (hs : scanOf s = (T, 0, 0)) {x : Ex} {k : Nat} (hq : exprL T (primP T s.size 12) 5 0 = .ok x k) (hk : k < T.length) (htok : ∀ W, Below w.heap.size w W → Calls Tryz.prog 144 #[.string s] W fun e w' => ∃ y, e = .returned (.tuple #[y, .agg #[.int .i64 0, .int .i64 0]]) ∧ Toks w' T y ∧ Below W.heap.size W w')
 (hsz : s.size ≤ 4000) (hex : ∀ (B : Nat) (tv : Value), TReads B T s.size tv 0 0 71 (exprL T (primP T s.size 12) 5)) :
 Calls Tryz.prog 70 #[.string s, .func (.func 71) #[] #[]] w (Reads w (readX s)) := by
 obtain ⟨W2, eW⟩ : ∃ W2, (w.alloc (.cells #[.int .i64 0, .int .i64 0, .int .i64 0, .int .i64 0, .string ⟨#[]⟩, .slice none 0 0, .slice none 0 0] 26)).alloc (.cells #[.int .i64 0, .int .i64 0] 35) = W2 := ⟨_, rfl⟩
 obtain ⟨z2, hb2, m0, m1⟩ := boxes2 eW
 have hB2 : Blk W2 w.heap.size zeroC 26 := by rw [← eW]; exact (Blk.new _ _ _).below ((Below.refl _ _).alloc (Nat.le_refl _) _)
 have hC2 : Blk W2 (w.heap.size + 1) [.int .i64 0, .int .i64 0] 35 := by rw [← eW]; exact Blk.new2 _ _ _ _ _
 have HB2 := Hd hb2
 have HE2 := Hd hB2
 have HF2 := Hd hC2
 have HTOK := Hd (htok W2 hb2)
 have HEX := Hd hex
 have HPX : Hid (readX s = (Ex.zero, 1, tkAt T s.size k)) := by unfold Hid readX; simp [hs, hq, hk]
 have HRUN : Hid ((TS.go 0).run (exprL T (primP T s.size 12) 5) = .go k) := by unfold Hid; simp only [TS.run, hq]
 have HSAME : Hid (∀ y, (TS.go 0).tells (exprL T (primP T s.size 12) 5) y → y = x) := fun y hy => hy 0 x k rfl hq
 clear hb2 m0 m1 hB2 hC2 htok hex hq hs
 go_enter Tryz.func70, Tryz.ntmps70
 go_wp2_with (fail)
 clear eW
 refine HTOK.out.mono ?_
 rintro e w3 ⟨tv, rfl, htk, hb3⟩
 have htk' := htk
 obtain ⟨pt, ct, rfl, _⟩ := htk'
 have HE3 := Hd (HE2.out.below hb3)
 have hF3 := HF2.out.below hb3
 have HF3 := Hd hF3
 have HB3 := Hd (HB2.out.trans (hb3.mono HB2.out.size))
 have j0 := hF3.cell 0
 have j1 := hF3.cell 1
 simp only [List.getElem?_cons_zero, List.getElem?_cons_succ] at j0 j1
 have l0 := hF3.fz 0
 have l1 := hF3.fz 1
 have s1 : w3.setCell ⟨w.heap.size + 1, 0, none⟩ (.int .i64 0) = w3 := hF3.same rfl
 have s2 : w3.setCell ⟨w.heap.size + 1, 1, none⟩ (.int .i64 0) = w3 := hF3.same rfl
 obtain ⟨W6, eW6⟩ : ∃ W, w3.alloc (.cells #[.slice pt T.length ct, .int .i64 0, .int .i64 s.size, .int .i64 0, .int .i64 0, .int .i64 0, .int .i64 0] 177) = W := ⟨_, rfl⟩
 have hb6 : Below w3.heap.size w3 W6 := by rw [← eW6]; exact (Below.refl _ _).alloc (Nat.le_refl _) _
 have hX6 : Blk W6 w3.heap.size [.slice pt T.length ct, .int .i64 0, .int .i64 s.size, .int .i64 0, .int .i64 0, .int .i64 0, .int .i64 0] 177 := by rw [← eW6]; exact Blk.new _ _ _
 have hr6 : Txr W6 w3.heap.size T s.size (.slice pt T.length ct) (.go 0) 0 0 := ⟨hX6, htk.stays ⟨by rw [mask_size]; exact hb6.size, fun b o v hv => by
  rw [mask_cell, if_neg (by have := cell_lt hv; simp at this ⊢; omega)]
  exact (keeps_of_below hb6).2 _ _ _ hv⟩, fun c a e => by cases e⟩
 have HC6 := Hd (HEX.out _ _ _ _ hr6)
 have HE6 := Hd (HE3.out.below hb6)
 have HF6 := Hd (HF3.out.below hb6)
 have HB6 := Hd (HB3.out.trans (hb6.mono HB3.out.size))
 have HN6 : Hid (w.heap.size + 1 < w3.heap.size ∧ W6.heap.size = w3.heap.size + 1) := ⟨HF3.out.lt, by rw [← eW6]; simp⟩
 clear hF3 hb3 htk hb6 hX6 hr6
 go_wp2_with (fail)
 clear j0 j1 l0 l1 s1 s2 eW6
 refine HC6.out.mono ?_
 rintro e w7 ⟨ha7, v7, y, rfl, hr7, hx7, ht7⟩
 rw [HRUN.out] at hr7
 obtain rfl : y = x := HSAME.out y ht7
 obtain ⟨pl, cl, pa, ca, rfl, _⟩ := hx7.cells
 obtain ⟨W8, eW8⟩ : ∃ W, w7.alloc (.cells #[.int .i64 y.kind, .int .i64 y.at_, .int .i64 y.num, .int .i64 y.ty, .string y.name, .slice pl y.lab.length cl, .slice pa y.kids.length ca] 26) = W := ⟨_, rfl⟩
 have hb8 : Below w7.heap.size w7 W8 := by rw [← eW8]; exact (Below.refl _ _).alloc (Nat.le_refl _) _
 have HX8 : Hid (Blk W8 w7.heap.size [.int .i64 y.kind, .int .i64 y.at_, .int .i64 y.num, .int .i64 y.ty, .string y.name, .slice pl y.lab.length cl, .slice pa y.kids.length ca] 26) := by rw [← eW8]; exact Blk.new _ _ _
 have HR8 := Hd (hr7.below hb8)
 have HE8 := Hd ((HE6.out.aside ha7 (by have := HN6.out; omega)).below hb8)
 have HF8 := Hd ((HF6.out.aside ha7 (by have := HN6.out; omega)).below hb8)
 have HB8 : Hid (Below w.heap.size w W8) := by
  have h1 : Below w.heap.size w w7 := ⟨ha7.os.trans HB6.out.os, ha7.tape.trans HB6.out.tape, ha7.output.trans HB6.out.output, Nat.le_trans HB6.out.size ha7.size, fun i hi => (ha7.block i (Nat.lt_of_lt_of_le hi HB6.out.size) (fun e => by simp at e; have := HN6.out; omega)).trans (HB6.out.block i hi)⟩
  exact h1.trans (hb8.mono h1.size)
 have HY8 : Hid (ExIs (since W6.heap.size W8) y (.agg #[.int .i64 y.kind, .int .i64 y.at_, .int .i64 y.num, .int .i64 y.ty, .string y.name, .slice pl y.lab.length cl, .slice pa y.kids.length ca])) := hx7.stays (keeps_hide hb8.size fun b hb hp => ⟨hp, hb8.block b hb⟩)
 have HN7 : Hid (W6.heap.size ≤ w7.heap.size) := ha7.size
 have c0 := HR8.out.c0
 have c1 := HR8.out.c1
 have c3 := HR8.out.c3
 clear hb8 ha7 hr7 hx7 ht7
 simp only [TS.c, TS.k] at c3 c1
 have hk1 : (k : Int) < (T.length : Int) := by omega
 go_wp2_with (fail)
 clear eW8
 go_quiet (fail)
 obtain ⟨W9, eW9⟩ : ∃ W9, W8.drewN nq = W9 := ⟨_, rfl⟩
 have hb9 : Below W8.heap.size W8 W9 := by rw [← eW9]; exact below_drewN (Below.refl _ _) nq
 have HR9 := Hd (HR8.out.below hb9)
 have HE9 := Hd (HE8.out.below hb9)
 have HF9 := Hd (HF8.out.below hb9)
 have HB9 := Hd (HB8.out.trans (hb9.mono HB8.out.size))
 have HWR : Hid (Calls Tryz.prog 145 #[.pointer (some ⟨w3.heap.size, 0, none⟩), .int .i64 1] W9 fun e w' => e = .returned (.tuple #[]) ∧ Aside1 w3.heap.size W9 w' ∧ Txr w' w3.heap.size T s.size (.slice pt T.length ct) (.stop 1 (tkAt T s.size k)) 0 0) := wrong_calls HR9.out 1 (by decide)
 have HN3 := Hd HN6.out.1
 rw [eW9]
 clear eW9 hb9 c0 c1 c3
 go_wp2_with (fail)
 refine HWR.out.mono ?_
 rintro e Wb ⟨rfl, hab, hrb⟩
 have HEb := Hd (HE9.out.aside hab (by have := HN6.out; omega))
 have HFb := Hd (HF9.out.aside hab (by have := HN6.out; omega))
 have HBb : Hid (Below w.heap.size w Wb) := ⟨hab.os.trans HB9.out.os, hab.tape.trans HB9.out.tape, hab.output.trans HB9.out.output, Nat.le_trans HB9.out.size hab.size, fun i hi => (hab.block i (Nat.lt_of_lt_of_le hi HB9.out.size) (fun e => by simp at e; have := HN6.out; omega)).trans (HB9.out.block i hi)⟩
 have hcf3 : Wb.cell? ⟨w3.heap.size, 3, none⟩ = some (.int .i64 1) := hrb.c3
 have hcf4 : Wb.cell? ⟨w3.heap.size, 4, none⟩ = some (.int .i64 (tkAt T s.size k)) := hrb.c4
 clear hab hrb
 go_upto_region 9 with fail
 obtain ⟨q0, q1, q2, q3, q4, q5, q6⟩ := HEb.out.cells7
 obtain ⟨f0, f1, f2, f3, f4, f5, f6⟩ := HEb.out.fz7
 have r0 := HFb.out.cell 0
 have r1 := HFb.out.cell 1
 simp only [List.getElem?_cons_zero, List.getElem?_cons_succ] at r0 r1
 have k0 := HFb.out.fz 0
 have k1 := HFb.out.fz 1
 have hn1 : ¬ w.heap.size = w.heap.size + 1 := by omega
 obtain ⟨V0, eV0⟩ : ∃ V0, sev Wb w.heap.size (.int .i64 0) (.int .i64 0) (.int .i64 0) (.int .i64 0) (.string ⟨#[]⟩) (.slice none 0 0) (.slice none 0 0) = V0 := ⟨_, rfl⟩
 obtain ⟨V1, eV1⟩ : ∃ V1, (V0.setCell ⟨w.heap.size + 1, 0, none⟩ (.int .i64 1)).setCell ⟨w.heap.size + 1, 1, none⟩ (.int .i64 (tkAt T s.size k)) = V1 := ⟨_, rfl⟩
 obtain ⟨h0f, hq0, hz0, g4, g5, hq1, hz1, g8⟩ := pair_set HBb.out HEb.out HFb.out eV0.symm eV1.symm
 have h0r : Blk V0 w.heap.size [.int .i64 0, .int .i64 0, .int .i64 0, .int .i64 0, .string ⟨#[]⟩, .slice none 0 0, .slice none 0 0] 26 := by rw [← eV0]; exact Blk.sev HEb.out
 have HK1 : Hid (Wb.drew.cell? ⟨w.heap.size, 0, none⟩ = some (.int .i64 0) ∧ Wb.drew.cell? ⟨w.heap.size, 1, none⟩ = some (.int .i64 0) ∧ Wb.drew.cell? ⟨w.heap.size, 2, none⟩ = some (.int .i64 0) ∧ Wb.drew.cell? ⟨w.heap.size, 3, none⟩ = some (.int .i64 0) ∧ Wb.drew.cell? ⟨w.heap.size, 4, none⟩ = some (.string ⟨#[]⟩) ∧ Wb.drew.cell? ⟨w.heap.size, 5, none⟩ = some (.slice none 0 0) ∧ Wb.drew.cell? ⟨w.heap.size, 6, none⟩ = some (.slice none 0 0) ∧ Wb.drew.cell? ⟨w3.heap.size, 3, none⟩ = some (.int .i64 1) ∧ Wb.drew.cell? ⟨w3.heap.size, 4, none⟩ = some (.int .i64 (tkAt T s.size k))) := ⟨HEb.out.cell 0, HEb.out.cell 1, HEb.out.cell 2, HEb.out.cell 3, HEb.out.cell 4, HEb.out.cell 5, HEb.out.cell 6, hcf3, hcf4⟩
 have hK2 : V0.drew.cell? ⟨w.heap.size, 0, none⟩ = some (.int .i64 0) ∧ V0.drew.cell? ⟨w.heap.size, 1, none⟩ = some (.int .i64 0) ∧ V0.drew.cell? ⟨w.heap.size, 2, none⟩ = some (.int .i64 0) ∧ V0.drew.cell? ⟨w.heap.size, 3, none⟩ = some (.int .i64 0) ∧ V0.drew.cell? ⟨w.heap.size, 4, none⟩ = some (.string ⟨#[]⟩) ∧ V0.drew.cell? ⟨w.heap.size, 5, none⟩ = some (.slice none 0 0) ∧ V0.drew.cell? ⟨w.heap.size, 6, none⟩ = some (.slice none 0 0) ∧ V0.drew.cell? ⟨w3.heap.size, 3, none⟩ = some (.int .i64 1) ∧ V0.drew.cell? ⟨w3.heap.size, 4, none⟩ = some (.int .i64 (tkAt T s.size k)) := ⟨h0r.cell 0, h0r.cell 1, h0r.cell 2, h0r.cell 3, h0r.cell 4, h0r.cell 5, h0r.cell 6, (World.cell?_of_block (a := ⟨w3.heap.size, 3, none⟩) (hq0 (w3.heap.size) (by have h1 := HN3.out; omega))).trans (hcf3), (World.cell?_of_block (a := ⟨w3.heap.size, 4, none⟩) (hq0 (w3.heap.size) (by have h1 := HN3.out; omega))).trans (hcf4)⟩
 have hK3 : V1.drew.cell? ⟨w.heap.size, 0, none⟩ = some (.int .i64 0) ∧ V1.drew.cell? ⟨w.heap.size, 1, none⟩ = some (.int .i64 0) ∧ V1.drew.cell? ⟨w.heap.size, 2, none⟩ = some (.int .i64 0) ∧ V1.drew.cell? ⟨w.heap.size, 3, none⟩ = some (.int .i64 0) ∧ V1.drew.cell? ⟨w.heap.size, 4, none⟩ = some (.string ⟨#[]⟩) ∧ V1.drew.cell? ⟨w.heap.size, 5, none⟩ = some (.slice none 0 0) ∧ V1.drew.cell? ⟨w.heap.size, 6, none⟩ = some (.slice none 0 0) ∧ V1.drew.cell? ⟨w3.heap.size, 3, none⟩ = some (.int .i64 1) ∧ V1.drew.cell? ⟨w3.heap.size, 4, none⟩ = some (.int .i64 (tkAt T s.size k)) := ⟨g4.cell 0, g4.cell 1, g4.cell 2, g4.cell 3, g4.cell 4, g4.cell 5, g4.cell 6, (World.cell?_of_block (a := ⟨w3.heap.size, 3, none⟩) (hq1 (w3.heap.size) (by have h1 := HN3.out; omega) (by have h1 := HN3.out; omega))).trans (hcf3), (World.cell?_of_block (a := ⟨w3.heap.size, 4, none⟩) (hq1 (w3.heap.size) (by have h1 := HN3.out; omega) (by have h1 := HN3.out; omega))).trans (hcf4)⟩
 have hXF : ExIs (since w.heap.size V1.drew) Ex.zero (.agg #[.int .i64 0, .int .i64 0, .int .i64 0, .int .i64 0, .string ⟨#[]⟩, .slice none 0 0, .slice none 0 0]) := exIs_zero _
 have hG : Blk V1.drew w.heap.size [.int .i64 0, .int .i64 0, .int .i64 0, .int .i64 0, .string ⟨#[]⟩, .slice none 0 0, .slice none 0 0] 26 ∧ Blk V1.drew (w.heap.size + 1) [.int .i64 1, .int .i64 (tkAt T s.size k)] 35 ∧ Below w.heap.size w V1.drew ∧ ExIs (since w.heap.size V1.drew) Ex.zero (.agg #[.int .i64 0, .int .i64 0, .int .i64 0, .int .i64 0, .string ⟨#[]⟩, .slice none 0 0, .slice none 0 0]) := ⟨g4, g5, g8.drew, hXF⟩
 rw [← eV1, ← eV0] at hK3 hG
 rw [← eV0] at hK2
 unfold sev at hK2 hK3 hG
 have HK2 := Hd hK2
 have HK3 := Hd hK3
 have HG := Hd hG
 clear hK2 hK3 hG hXF g4 g5 g8 hq0 hq1 hz0 hz1 eV0 eV1 h0f h0r
 go_wp2_with (fail)
 go_region_held3 (fun w' => w'.cell? ⟨w.heap.size, 0, none⟩ = some (.int .i64 0) ∧ w'.cell? ⟨w.heap.size, 1, none⟩ = some (.int .i64 0) ∧ w'.cell? ⟨w.heap.size, 2, none⟩ = some (.int .i64 0) ∧ w'.cell? ⟨w.heap.size, 3, none⟩ = some (.int .i64 0) ∧ w'.cell? ⟨w.heap.size, 4, none⟩ = some (.string ⟨#[]⟩) ∧ w'.cell? ⟨w.heap.size, 5, none⟩ = some (.slice none 0 0) ∧ w'.cell? ⟨w.heap.size, 6, none⟩ = some (.slice none 0 0) ∧ w'.cell? ⟨w3.heap.size, 3, none⟩ = some (.int .i64 1) ∧ w'.cell? ⟨w3.heap.size, 4, none⟩ = some (.int .i64 (tkAt T s.size k)))
  (first | with_reducible exact HK1.out | with_reducible exact HK2.out | with_reducible exact HK3.out)
  (fail)
 all_goals go_wp2_with (fail)
 all_goals rw [HPX.out]
 all_goals exact bodyPost_ret (pairR_done _ rfl rfl HG.out.1 HG.out.2.1) rfl ⟨_, rfl, HG.out.2.2.2, HG.out.2.2.1⟩
theorem readR_done (s : Txt) (w : World) {T : List Tok} (hs : scanOf s = (T, 0, 0)) {x : Ex} {k : Nat} (hq : exprL T (primP T s.size 12) 5 0 = .ok x k) (hk : ¬ k < T.length) (htok : ∀ W, Below w.heap.size w W → Calls Tryz.prog 144 #[.string s] W fun e w' => ∃ y, e = .returned (.tuple #[y, .agg #[.int .i64 0, .int .i64 0]]) ∧ Toks w' T y ∧ Below W.heap.size W w')
 (hsz : s.size ≤ 4000) (hex : ∀ (B : Nat) (tv : Value), TReads B T s.size tv 0 0 71 (exprL T (primP T s.size 12) 5)) :
 Calls Tryz.prog 70 #[.string s, .func (.func 71) #[] #[]] w (Reads w (readX s)) := by
 obtain ⟨W2, eW⟩ : ∃ W2, (w.alloc (.cells #[.int .i64 0, .int .i64 0, .int .i64 0, .int .i64 0, .string ⟨#[]⟩, .slice none 0 0, .slice none 0 0] 26)).alloc (.cells #[.int .i64 0, .int .i64 0] 35) = W2 := ⟨_, rfl⟩
 obtain ⟨z2, hb2, m0, m1⟩ := boxes2 eW
 have hB2 : Blk W2 w.heap.size zeroC 26 := by rw [← eW]; exact (Blk.new _ _ _).below ((Below.refl _ _).alloc (Nat.le_refl _) _)
 have hC2 : Blk W2 (w.heap.size + 1) [.int .i64 0, .int .i64 0] 35 := by rw [← eW]; exact Blk.new2 _ _ _ _ _
 have HB2 := Hd hb2
 have HE2 := Hd hB2
 have HF2 := Hd hC2
 have HTOK := Hd (htok W2 hb2)
 have HEX := Hd hex
 have HPX : Hid (readX s = (x, 0, 0)) := by unfold Hid readX; simp [hs, hq, hk]
 have HRUN : Hid ((TS.go 0).run (exprL T (primP T s.size 12) 5) = .go k) := by unfold Hid; simp only [TS.run, hq]
 have HSAME : Hid (∀ y, (TS.go 0).tells (exprL T (primP T s.size 12) 5) y → y = x) := fun y hy => hy 0 x k rfl hq
 clear hb2 m0 m1 hB2 hC2 htok hex hq hs
 go_enter Tryz.func70, Tryz.ntmps70
 go_wp2_with (fail)
 clear eW
 refine HTOK.out.mono ?_
 rintro e w3 ⟨tv, rfl, htk, hb3⟩
 have htk' := htk
 obtain ⟨pt, ct, rfl, _⟩ := htk'
 have HE3 := Hd (HE2.out.below hb3)
 have hF3 := HF2.out.below hb3
 have HF3 := Hd hF3
 have HB3 := Hd (HB2.out.trans (hb3.mono HB2.out.size))
 have j0 := hF3.cell 0
 have j1 := hF3.cell 1
 simp only [List.getElem?_cons_zero, List.getElem?_cons_succ] at j0 j1
 have l0 := hF3.fz 0
 have l1 := hF3.fz 1
 have s1 : w3.setCell ⟨w.heap.size + 1, 0, none⟩ (.int .i64 0) = w3 := hF3.same rfl
 have s2 : w3.setCell ⟨w.heap.size + 1, 1, none⟩ (.int .i64 0) = w3 := hF3.same rfl
 obtain ⟨W6, eW6⟩ : ∃ W, w3.alloc (.cells #[.slice pt T.length ct, .int .i64 0, .int .i64 s.size, .int .i64 0, .int .i64 0, .int .i64 0, .int .i64 0] 177) = W := ⟨_, rfl⟩
 have hb6 : Below w3.heap.size w3 W6 := by rw [← eW6]; exact (Below.refl _ _).alloc (Nat.le_refl _) _
 have hX6 : Blk W6 w3.heap.size [.slice pt T.length ct, .int .i64 0, .int .i64 s.size, .int .i64 0, .int .i64 0, .int .i64 0, .int .i64 0] 177 := by rw [← eW6]; exact Blk.new _ _ _
 have hr6 : Txr W6 w3.heap.size T s.size (.slice pt T.length ct) (.go 0) 0 0 := ⟨hX6, htk.stays ⟨by rw [mask_size]; exact hb6.size, fun b o v hv => by
  rw [mask_cell, if_neg (by have := cell_lt hv; simp at this ⊢; omega)]
  exact (keeps_of_below hb6).2 _ _ _ hv⟩, fun c a e => by cases e⟩
 have HC6 := Hd (HEX.out _ _ _ _ hr6)
 have HE6 := Hd (HE3.out.below hb6)
 have HF6 := Hd (HF3.out.below hb6)
 have HB6 := Hd (HB3.out.trans (hb6.mono HB3.out.size))
 have HN6 : Hid (w.heap.size + 1 < w3.heap.size ∧ W6.heap.size = w3.heap.size + 1) := ⟨HF3.out.lt, by rw [← eW6]; simp⟩
 clear hF3 hb3 htk hb6 hX6 hr6
 go_wp2_with (fail)
 clear j0 j1 l0 l1 s1 s2 eW6
 refine HC6.out.mono ?_
 rintro e w7 ⟨ha7, v7, y, rfl, hr7, hx7, ht7⟩
 rw [HRUN.out] at hr7
 obtain rfl : y = x := HSAME.out y ht7
 obtain ⟨pl, cl, pa, ca, rfl, _⟩ := hx7.cells
 obtain ⟨W8, eW8⟩ : ∃ W, w7.alloc (.cells #[.int .i64 y.kind, .int .i64 y.at_, .int .i64 y.num, .int .i64 y.ty, .string y.name, .slice pl y.lab.length cl, .slice pa y.kids.length ca] 26) = W := ⟨_, rfl⟩
 have hb8 : Below w7.heap.size w7 W8 := by rw [← eW8]; exact (Below.refl _ _).alloc (Nat.le_refl _) _
 have HX8 : Hid (Blk W8 w7.heap.size [.int .i64 y.kind, .int .i64 y.at_, .int .i64 y.num, .int .i64 y.ty, .string y.name, .slice pl y.lab.length cl, .slice pa y.kids.length ca] 26) := by rw [← eW8]; exact Blk.new _ _ _
 have HR8 := Hd (hr7.below hb8)
 have HE8 := Hd ((HE6.out.aside ha7 (by have := HN6.out; omega)).below hb8)
 have HF8 := Hd ((HF6.out.aside ha7 (by have := HN6.out; omega)).below hb8)
 have HB8 : Hid (Below w.heap.size w W8) := by
  have h1 : Below w.heap.size w w7 := ⟨ha7.os.trans HB6.out.os, ha7.tape.trans HB6.out.tape, ha7.output.trans HB6.out.output, Nat.le_trans HB6.out.size ha7.size, fun i hi => (ha7.block i (Nat.lt_of_lt_of_le hi HB6.out.size) (fun e => by simp at e; have := HN6.out; omega)).trans (HB6.out.block i hi)⟩
  exact h1.trans (hb8.mono h1.size)
 have HY8 : Hid (ExIs (since W6.heap.size W8) y (.agg #[.int .i64 y.kind, .int .i64 y.at_, .int .i64 y.num, .int .i64 y.ty, .string y.name, .slice pl y.lab.length cl, .slice pa y.kids.length ca])) := hx7.stays (keeps_hide hb8.size fun b hb hp => ⟨hp, hb8.block b hb⟩)
 have HN7 : Hid (W6.heap.size ≤ w7.heap.size) := ha7.size
 have c0 := HR8.out.c0
 have c1 := HR8.out.c1
 have c3 := HR8.out.c3
 clear hb8 ha7 hr7 hx7 ht7
 simp only [TS.c, TS.k] at c3 c1
 have hk1 : ¬ (k : Int) < (T.length : Int) := by omega
 have hk2 : (T.length : Int) ≤ (k : Int) := by omega
 go_wp2_with (fail)
 clear eW8
 go_quiet (fail)
 obtain ⟨W9, eW9⟩ : ∃ W9, W8.drewN nq = W9 := ⟨_, rfl⟩
 have hb9 : Below W8.heap.size W8 W9 := by rw [← eW9]; exact below_drewN (Below.refl _ _) nq
 have HR9 := Hd (HR8.out.below hb9)
 have HE9 := Hd (HE8.out.below hb9)
 have HF9 := Hd (HF8.out.below hb9)
 have HB9 := Hd (HB8.out.trans (hb9.mono HB8.out.size))
 have HN3 : Hid (w.heap.size + 1 < w7.heap.size) := by have h1 := HN6.out; have h2 := HN7.out; unfold Hid; omega
 have HX9 := Hd (HX8.out.below hb9)
 have HY9 : Hid (ExIs (since W6.heap.size W9) y (.agg #[.int .i64 y.kind, .int .i64 y.at_, .int .i64 y.num, .int .i64 y.ty, .string y.name, .slice pl y.lab.length cl, .slice pa y.kids.length ca])) := HY8.out.stays (keeps_hide hb9.size fun b hb hp => ⟨hp, hb9.block b hb⟩)
 have c3 : W9.cell? ⟨w3.heap.size, 3, none⟩ = some (.int .i64 0) := HR9.out.c3
 rw [eW9]
 clear eW9 hb9 c0 c1
 go_upto_region 10 with fail
 clear c3
 have hcf0 : W9.cell? ⟨w7.heap.size, 0, none⟩ = some (.int .i64 y.kind) := HX9.out.cell 0
 have hcf1 : W9.cell? ⟨w7.heap.size, 1, none⟩ = some (.int .i64 y.at_) := HX9.out.cell 1
 have hcf2 : W9.cell? ⟨w7.heap.size, 2, none⟩ = some (.int .i64 y.num) := HX9.out.cell 2
 have hcf3 : W9.cell? ⟨w7.heap.size, 3, none⟩ = some (.int .i64 y.ty) := HX9.out.cell 3
 have hcf4 : W9.cell? ⟨w7.heap.size, 4, none⟩ = some (.string y.name) := HX9.out.cell 4
 have hcf5 : W9.cell? ⟨w7.heap.size, 5, none⟩ = some (.slice pl y.lab.length cl) := HX9.out.cell 5
 have hcf6 : W9.cell? ⟨w7.heap.size, 6, none⟩ = some (.slice pa y.kids.length ca) := HX9.out.cell 6
 obtain ⟨q0, q1, q2, q3, q4, q5, q6⟩ := HE9.out.cells7
 obtain ⟨f0, f1, f2, f3, f4, f5, f6⟩ := HE9.out.fz7
 have r0 := HF9.out.cell 0
 have r1 := HF9.out.cell 1
 simp only [List.getElem?_cons_zero, List.getElem?_cons_succ] at r0 r1
 have k0 := HF9.out.fz 0
 have k1 := HF9.out.fz 1
 have hn1 : ¬ w.heap.size = w.heap.size + 1 := by omega
 obtain ⟨V0, eV0⟩ : ∃ V0, sev W9 w.heap.size (.int .i64 y.kind) (.int .i64 y.at_) (.int .i64 y.num) (.int .i64 y.ty) (.string y.name) (.slice pl y.lab.length cl) (.slice pa y.kids.length ca) = V0 := ⟨_, rfl⟩
 obtain ⟨V1, eV1⟩ : ∃ V1, (V0.setCell ⟨w.heap.size + 1, 0, none⟩ (.int .i64 0)).setCell ⟨w.heap.size + 1, 1, none⟩ (.int .i64 0) = V1 := ⟨_, rfl⟩
 obtain ⟨h0f, hq0, hz0, g4, g5, hq1, hz1, g8⟩ := pair_set HB9.out HE9.out HF9.out eV0.symm eV1.symm
 have h0r : Blk V0 w.heap.size [.int .i64 y.kind, .int .i64 y.at_, .int .i64 y.num, .int .i64 y.ty, .string y.name, .slice pl y.lab.length cl, .slice pa y.kids.length ca] 26 := by rw [← eV0]; exact Blk.sev HE9.out
 have HK1 : Hid (W9.drew.cell? ⟨w7.heap.size, 0, none⟩ = some (.int .i64 y.kind) ∧ W9.drew.cell? ⟨w7.heap.size, 1, none⟩ = some (.int .i64 y.at_) ∧ W9.drew.cell? ⟨w7.heap.size, 2, none⟩ = some (.int .i64 y.num) ∧ W9.drew.cell? ⟨w7.heap.size, 3, none⟩ = some (.int .i64 y.ty) ∧ W9.drew.cell? ⟨w7.heap.size, 4, none⟩ = some (.string y.name) ∧ W9.drew.cell? ⟨w7.heap.size, 5, none⟩ = some (.slice pl y.lab.length cl) ∧ W9.drew.cell? ⟨w7.heap.size, 6, none⟩ = some (.slice pa y.kids.length ca) ∧ W9.drew.cell? ⟨w.heap.size + 1, 0, none⟩ = some (.int .i64 0) ∧ W9.drew.cell? ⟨w.heap.size + 1, 1, none⟩ = some (.int .i64 0)) := ⟨hcf0, hcf1, hcf2, hcf3, hcf4, hcf5, hcf6, HF9.out.cell 0, HF9.out.cell 1⟩
 have hK2 : V0.drew.cell? ⟨w7.heap.size, 0, none⟩ = some (.int .i64 y.kind) ∧ V0.drew.cell? ⟨w7.heap.size, 1, none⟩ = some (.int .i64 y.at_) ∧ V0.drew.cell? ⟨w7.heap.size, 2, none⟩ = some (.int .i64 y.num) ∧ V0.drew.cell? ⟨w7.heap.size, 3, none⟩ = some (.int .i64 y.ty) ∧ V0.drew.cell? ⟨w7.heap.size, 4, none⟩ = some (.string y.name) ∧ V0.drew.cell? ⟨w7.heap.size, 5, none⟩ = some (.slice pl y.lab.length cl) ∧ V0.drew.cell? ⟨w7.heap.size, 6, none⟩ = some (.slice pa y.kids.length ca) ∧ V0.drew.cell? ⟨w.heap.size + 1, 0, none⟩ = some (.int .i64 0) ∧ V0.drew.cell? ⟨w.heap.size + 1, 1, none⟩ = some (.int .i64 0) := ⟨(World.cell?_of_block (a := ⟨w7.heap.size, 0, none⟩) (hq0 (w7.heap.size) (by have h1 := HN3.out; omega))).trans (hcf0), (World.cell?_of_block (a := ⟨w7.heap.size, 1, none⟩) (hq0 (w7.heap.size) (by have h1 := HN3.out; omega))).trans (hcf1), (World.cell?_of_block (a := ⟨w7.heap.size, 2, none⟩) (hq0 (w7.heap.size) (by have h1 := HN3.out; omega))).trans (hcf2), (World.cell?_of_block (a := ⟨w7.heap.size, 3, none⟩) (hq0 (w7.heap.size) (by have h1 := HN3.out; omega))).trans (hcf3), (World.cell?_of_block (a := ⟨w7.heap.size, 4, none⟩) (hq0 (w7.heap.size) (by have h1 := HN3.out; omega))).trans (hcf4), (World.cell?_of_block (a := ⟨w7.heap.size, 5, none⟩) (hq0 (w7.heap.size) (by have h1 := HN3.out; omega))).trans (hcf5), (World.cell?_of_block (a := ⟨w7.heap.size, 6, none⟩) (hq0 (w7.heap.size) (by have h1 := HN3.out; omega))).trans (hcf6), h0f.cell 0, h0f.cell 1⟩
 have hK3 : V1.drew.cell? ⟨w7.heap.size, 0, none⟩ = some (.int .i64 y.kind) ∧ V1.drew.cell? ⟨w7.heap.size, 1, none⟩ = some (.int .i64 y.at_) ∧ V1.drew.cell? ⟨w7.heap.size, 2, none⟩ = some (.int .i64 y.num) ∧ V1.drew.cell? ⟨w7.heap.size, 3, none⟩ = some (.int .i64 y.ty) ∧ V1.drew.cell? ⟨w7.heap.size, 4, none⟩ = some (.string y.name) ∧ V1.drew.cell? ⟨w7.heap.size, 5, none⟩ = some (.slice pl y.lab.length cl) ∧ V1.drew.cell? ⟨w7.heap.size, 6, none⟩ = some (.slice pa y.kids.length ca) ∧ V1.drew.cell? ⟨w.heap.size + 1, 0, none⟩ = some (.int .i64 0) ∧ V1.drew.cell? ⟨w.heap.size + 1, 1, none⟩ = some (.int .i64 0) := ⟨(World.cell?_of_block (a := ⟨w7.heap.size, 0, none⟩) (hq1 (w7.heap.size) (by have h1 := HN3.out; omega) (by have h1 := HN3.out; omega))).trans (hcf0), (World.cell?_of_block (a := ⟨w7.heap.size, 1, none⟩) (hq1 (w7.heap.size) (by have h1 := HN3.out; omega) (by have h1 := HN3.out; omega))).trans (hcf1), (World.cell?_of_block (a := ⟨w7.heap.size, 2, none⟩) (hq1 (w7.heap.size) (by have h1 := HN3.out; omega) (by have h1 := HN3.out; omega))).trans (hcf2), (World.cell?_of_block (a := ⟨w7.heap.size, 3, none⟩) (hq1 (w7.heap.size) (by have h1 := HN3.out; omega) (by have h1 := HN3.out; omega))).trans (hcf3), (World.cell?_of_block (a := ⟨w7.heap.size, 4, none⟩) (hq1 (w7.heap.size) (by have h1 := HN3.out; omega) (by have h1 := HN3.out; omega))).trans (hcf4), (World.cell?_of_block (a := ⟨w7.heap.size, 5, none⟩) (hq1 (w7.heap.size) (by have h1 := HN3.out; omega) (by have h1 := HN3.out; omega))).trans (hcf5), (World.cell?_of_block (a := ⟨w7.heap.size, 6, none⟩) (hq1 (w7.heap.size) (by have h1 := HN3.out; omega) (by have h1 := HN3.out; omega))).trans (hcf6), g5.cell 0, g5.cell 1⟩
 have hXF : ExIs (since w.heap.size V1.drew) y (.agg #[.int .i64 y.kind, .int .i64 y.at_, .int .i64 y.num, .int .i64 y.ty, .string y.name, .slice pl y.lab.length cl, .slice pa y.kids.length ca]) := HY9.out.stays ((keeps_hide (q := fun b => decide (b < W6.heap.size)) (by show W9.heap.size ≤ V1.heap.size; rw [hz1]; exact Nat.le_refl _) fun b hb hp => ⟨hp, hq1 b (by have h1 := HN6.out; simp at hp; omega) (by have h1 := HN6.out; simp at hp; omega)⟩ : Keeps (since W6.heap.size W9) (since W6.heap.size V1.drew)).trans (since_mono _ (by have h1 := HN6.out; omega)))
 have hG : Blk V1.drew w.heap.size [.int .i64 y.kind, .int .i64 y.at_, .int .i64 y.num, .int .i64 y.ty, .string y.name, .slice pl y.lab.length cl, .slice pa y.kids.length ca] 26 ∧ Blk V1.drew (w.heap.size + 1) [.int .i64 0, .int .i64 0] 35 ∧ Below w.heap.size w V1.drew ∧ ExIs (since w.heap.size V1.drew) y (.agg #[.int .i64 y.kind, .int .i64 y.at_, .int .i64 y.num, .int .i64 y.ty, .string y.name, .slice pl y.lab.length cl, .slice pa y.kids.length ca]) := ⟨g4, g5, g8.drew, hXF⟩
 rw [← eV1, ← eV0] at hK3 hG
 rw [← eV0] at hK2
 unfold sev at hK2 hK3 hG
 have HK2 := Hd hK2
 have HK3 := Hd hK3
 have HG := Hd hG
 clear hK2 hK3 hG hXF g4 g5 g8 hq0 hq1 hz0 hz1 eV0 eV1 h0f h0r
 go_wp2_with (fail)
 go_region_held3 (fun w' => w'.cell? ⟨w7.heap.size, 0, none⟩ = some (.int .i64 y.kind) ∧ w'.cell? ⟨w7.heap.size, 1, none⟩ = some (.int .i64 y.at_) ∧ w'.cell? ⟨w7.heap.size, 2, none⟩ = some (.int .i64 y.num) ∧ w'.cell? ⟨w7.heap.size, 3, none⟩ = some (.int .i64 y.ty) ∧ w'.cell? ⟨w7.heap.size, 4, none⟩ = some (.string y.name) ∧ w'.cell? ⟨w7.heap.size, 5, none⟩ = some (.slice pl y.lab.length cl) ∧ w'.cell? ⟨w7.heap.size, 6, none⟩ = some (.slice pa y.kids.length ca) ∧ w'.cell? ⟨w.heap.size + 1, 0, none⟩ = some (.int .i64 0) ∧ w'.cell? ⟨w.heap.size + 1, 1, none⟩ = some (.int .i64 0))
  (first | with_reducible exact HK1.out | with_reducible exact HK2.out | with_reducible exact HK3.out)
  (fail)
 all_goals go_wp2_with (fail)
 all_goals rw [HPX.out]
 all_goals exact bodyPost_ret (pairR_done _ rfl rfl HG.out.1 HG.out.2.1) rfl ⟨_, rfl, HG.out.2.2.2, HG.out.2.2.1⟩
theorem readR_calls (s : Txt) (w : World) (htok : ∀ W, Below w.heap.size w W → Calls Tryz.prog 144 #[.string s] W fun e w' => ∃ y, e = .returned (.tuple #[y, .agg #[.int .i64 (scanOf s).2.1, .int .i64 (scanOf s).2.2]]) ∧ Toks w' (scanOf s).1 y ∧ Below W.heap.size W w') :
 Calls Tryz.prog 70 #[.string s, .func (.func 71) #[] #[]] w (Reads w (readX s)) := by
 by_cases hc : (scanOf s).2.1 = 0
 · obtain ⟨T, q, hs⟩ : ∃ T q, scanOf s = (T, 0, q) := ⟨(scanOf s).1, (scanOf s).2.2, by rw [← hc]⟩
   obtain rfl := scanOf_zero hs
   obtain ⟨h1, h2, h3⟩ := scanOf_stands hs
   rw [hs] at htok
   have hT : ∀ t ∈ T, okTxt t.2.2 := fun t ht => by have := (stands_size (h3 t ht)).1; unfold okTxt; omega
   have hex : ∀ (B : Nat) (tv : Value), TReads B T s.size tv 0 0 71 (exprL T (primP T s.size 12) 5) := fun B tv => exprR_calls (pint_calls h3) hT
   cases hq : exprL T (primP T s.size 12) 5 0 with
   | bad c a => exact readR_bad s w hs hq htok h1 hex
   | ok x k =>
     by_cases hk : k < T.length
     · exact readR_more s w hs hq hk htok h1 hex
     · exact readR_done s w hs hq hk htok h1 hex
 · exact readR_none s w hc htok
end
section
open Go.RowKit
def readL (s : Txt) : Lab × Int × Int :=
 if (scanOf s).2.1 = 0 then (match labelP (scanOf s).1 s.size 0 with
  | .ok x k => if k < (scanOf s).1.length then ([], 1, tkAt (scanOf s).1 s.size k) else (x, 0, 0)
  | .bad c a => ([], c, a))
 else ([], (scanOf s).2.1, (scanOf s).2.2)
def ReadsL (w : World) (r : Lab × Int × Int) (e : Ending) (w' : World) : Prop := ∃ v, e = .returned (.tuple #[v, .agg #[.int .i64 r.2.1, .int .i64 r.2.2]]) ∧ Lbl (since w.heap.size w') r.1 v ∧ Below w.heap.size w w'
theorem pairL_done {V : World} {n : Nat} {c a : Int} {v : Value} (tmps : Array Value) (ht4 : tmps[4]? = some v) (ht5 : tmps[5]? = some (.pointer (some ⟨n, 0, none⟩)))
 (r0 : V.cell? ⟨n, 0, none⟩ = some (.int .i64 c)) (r1 : V.cell? ⟨n, 1, none⟩ = some (.int .i64 a)) :
 (results Tryz.f72 tmps).run Tryz.prog V = .ok (.tuple #[v, .agg #[.int .i64 c, .int .i64 a]]) V := by
 simp [results, Tryz.results72, go_sem, ht4, ht5, r0, r1]
theorem readRL_none (s : Txt) (w : World) (hc : (scanOf s).2.1 ≠ 0) (htok : ∀ W, Below w.heap.size w W → Calls Tryz.prog 144 #[.string s] W fun e w' => ∃ y, e = .returned (.tuple #[y, .agg #[.int .i64 (scanOf s).2.1, .int .i64 (scanOf s).2.2]]) ∧ Toks w' (scanOf s).1 y ∧ Below W.heap.size W w') :
 Calls Tryz.prog 72 #[.string s, .func (.func 73) #[] #[]] w (ReadsL w (readL s)) := by
 obtain ⟨W2, eW⟩ : ∃ W2, w.alloc (.cells #[.int .i64 0, .int .i64 0] 35) = W2 := ⟨_, rfl⟩
 obtain ⟨z2, hb2, m0⟩ := boxes1 eW
 have hC2 : Blk W2 w.heap.size [.int .i64 0, .int .i64 0] 35 := by rw [← eW]; exact Blk.new _ _ _
 have HB2 := Hd hb2
 have HF2 := Hd hC2
 have HTOK := Hd (htok W2 hb2)
 have HPX : Hid (readL s = ([], (scanOf s).2.1, (scanOf s).2.2)) := by unfold Hid readL; rw [if_neg hc]
 clear hb2 m0 hC2 htok
 generalize (scanOf s).2.1 = c at *
 generalize (scanOf s).2.2 = a at *
 have hc1 : (c != 0) = true := bne_iff_ne.2 hc
 have hc2 : (c == 0) = false := beq_eq_false_iff_ne.2 hc
 clear hc
 go_enter Tryz.func72, Tryz.ntmps72
 go_wp2_with (fail)
 clear eW
 refine HTOK.out.mono ?_
 rintro e w3 ⟨tv, rfl, htk, hb3⟩
 have hF3 := HF2.out.below hb3
 have HB3 := Hd (HB2.out.trans (hb3.mono HB2.out.size))
 have j0 := hF3.cell 0
 have j1 := hF3.cell 1
 simp only [List.getElem?_cons_zero, List.getElem?_cons_succ] at j0 j1
 have l0 := hF3.fz 0
 have l1 := hF3.fz 1
 obtain ⟨w5, eW5⟩ : ∃ w5, (w3.setCell ⟨w.heap.size, 0, none⟩ (.int .i64 c)).setCell ⟨w.heap.size, 1, none⟩ (.int .i64 a) = w5 := ⟨_, rfl⟩
 have HF5 : Hid (Blk w5 w.heap.size [.int .i64 c, .int .i64 a] 35) := by
  have := (hF3.set 0 (.int .i64 c)).set 1 (.int .i64 a)
  unfold Hid
  rw [← eW5]
  simpa using this
 have HB5 : Hid (Below w.heap.size w w5) := by unfold Hid; rw [← eW5]; exact (HB3.out.setCell (Nat.le_refl _) _).setCell (Nat.le_refl _) _
 have s0 := HF5.out.cell 0
 simp only [List.getElem?_cons_zero] at s0
 clear hF3 hb3 htk
 go_upto_region 3 with fail
 clear eW5 j0 j1 l0 l1 s0
 have hF6 : Blk w5.drew w.heap.size [.int .i64 c, .int .i64 a] 35 := HF5.out
 have HB6 : Hid (Below w.heap.size w w5.drew) := HB5.out.drew
 have f0 := hF6.fz 0
 have f1 := hF6.fz 1
 have s1 : w5.drew.setCell ⟨w.heap.size, 0, none⟩ (.int .i64 c) = w5.drew := hF6.same rfl
 have s2 : w5.drew.setCell ⟨w.heap.size, 1, none⟩ (.int .i64 a) = w5.drew := hF6.same rfl
 have g0 : w5.drew.cell? ⟨w.heap.size, 0, none⟩ = some (.int .i64 c) := hF6.cell 0
 have g1 : w5.drew.cell? ⟨w.heap.size, 1, none⟩ = some (.int .i64 a) := hF6.cell 1
 have HK1 : Hid (w5.drew.cell? ⟨w.heap.size, 0, none⟩ = some (.int .i64 c) ∧ w5.drew.cell? ⟨w.heap.size, 1, none⟩ = some (.int .i64 a)) := ⟨g0, g1⟩
 clear hF6
 go_region_held3 (fun w' => w'.cell? ⟨w.heap.size, 0, none⟩ = some (.int .i64 c) ∧ w'.cell? ⟨w.heap.size, 1, none⟩ = some (.int .i64 a))
  (with_reducible exact HK1.out)
  (fail)
 all_goals go_wp2_with (fail)
 all_goals rw [HPX.out]
 all_goals exact bodyPost_ret (pairL_done _ rfl rfl HK1.out.1 HK1.out.2) rfl ⟨_, rfl, lbl_nil _, HB6.out⟩
theorem readRL_bad (s : Txt) (w : World) {T : List Tok} (hs : scanOf s = (T, 0, 0)) {c a : Int} (hq : labelP T s.size 0 = .bad c a) (htok : ∀ W, Below w.heap.size w W → Calls Tryz.prog 144 #[.string s] W fun e w' => ∃ y, e = .returned (.tuple #[y, .agg #[.int .i64 0, .int .i64 0]]) ∧ Toks w' T y ∧ Below W.heap.size W w')
 (hsz : s.size ≤ 4000) :
 Calls Tryz.prog 72 #[.string s, .func (.func 73) #[] #[]] w (ReadsL w (readL s)) := by
 obtain ⟨W2, eW⟩ : ∃ W2, w.alloc (.cells #[.int .i64 0, .int .i64 0] 35) = W2 := ⟨_, rfl⟩
 obtain ⟨z2, hb2, m0⟩ := boxes1 eW
 have hC2 : Blk W2 w.heap.size [.int .i64 0, .int .i64 0] 35 := by rw [← eW]; exact Blk.new _ _ _
 have HB2 := Hd hb2
 have HF2 := Hd hC2
 have HTOK := Hd (htok W2 hb2)
 have HPX : Hid (readL s = ([], c, a)) := by unfold Hid readL; simp only [hs, hq]; rfl
 have HRUN : Hid ((TS.go 0).run (labelP T s.size) = .stop c a) := by unfold Hid; simp only [TS.run, hq]
 clear hb2 m0 hC2 htok hq hs
 go_enter Tryz.func72, Tryz.ntmps72
 go_wp2_with (fail)
 clear eW
 refine HTOK.out.mono ?_
 rintro e w3 ⟨tv, rfl, htk, hb3⟩
 have htk' := htk
 obtain ⟨pt, ct, rfl, _⟩ := htk'
 have hF3 := HF2.out.below hb3
 have HF3 := Hd hF3
 have HB3 := Hd (HB2.out.trans (hb3.mono HB2.out.size))
 have j0 := hF3.cell 0
 have j1 := hF3.cell 1
 simp only [List.getElem?_cons_zero, List.getElem?_cons_succ] at j0 j1
 have l0 := hF3.fz 0
 have l1 := hF3.fz 1
 have s1 : w3.setCell ⟨w.heap.size, 0, none⟩ (.int .i64 0) = w3 := hF3.same rfl
 have s2 : w3.setCell ⟨w.heap.size, 1, none⟩ (.int .i64 0) = w3 := hF3.same rfl
 obtain ⟨W6, eW6⟩ : ∃ W, w3.alloc (.cells #[.slice pt T.length ct, .int .i64 0, .int .i64 s.size, .int .i64 0, .int .i64 0, .int .i64 0, .int .i64 0] 177) = W := ⟨_, rfl⟩
 have hb6 : Below w3.heap.size w3 W6 := by rw [← eW6]; exact (Below.refl _ _).alloc (Nat.le_refl _) _
 have hX6 : Blk W6 w3.heap.size [.slice pt T.length ct, .int .i64 0, .int .i64 s.size, .int .i64 0, .int .i64 0, .int .i64 0, .int .i64 0] 177 := by rw [← eW6]; exact Blk.new _ _ _
 have hr6 : Txr W6 w3.heap.size T s.size (.slice pt T.length ct) (.go 0) 0 0 := ⟨hX6, htk.stays ⟨by rw [mask_size]; exact hb6.size, fun b o v hv => by
  rw [mask_cell, if_neg (by have := cell_lt hv; simp at this ⊢; omega)]
  exact (keeps_of_below hb6).2 _ _ _ hv⟩, fun c a e => by cases e⟩
 have HC6 := Hd (tlabel_calls hr6)
 have HF6 := Hd (HF3.out.below hb6)
 have HB6 := Hd (HB3.out.trans (hb6.mono HB3.out.size))
 have HN6 : Hid (w.heap.size < w3.heap.size ∧ W6.heap.size = w3.heap.size + 1) := ⟨HF3.out.lt, by rw [← eW6]; simp⟩
 clear hF3 hb3 htk hb6 hX6 hr6
 go_wp2_with (fail)
 clear j0 j1 l0 l1 s1 s2 eW6
 refine HC6.out.mono ?_
 rintro e w7 ⟨ha7, v7, y, rfl, hr7, hx7, ht7⟩
 rw [HRUN.out] at hr7
 have HY7 : Hid (Lbl (since W6.heap.size w7) y v7) := hx7
 obtain ⟨pl, cl, rfl, _⟩ := hx7
 have HR7 := Hd hr7
 have HF7 := Hd (HF6.out.aside ha7 (by have := HN6.out; omega))
 have HB7 : Hid (Below w.heap.size w w7) := ⟨ha7.os.trans HB6.out.os, ha7.tape.trans HB6.out.tape, ha7.output.trans HB6.out.output, Nat.le_trans HB6.out.size ha7.size, fun i hi => (ha7.block i (Nat.lt_of_lt_of_le hi HB6.out.size) (fun e => by simp at e; have := HN6.out; omega)).trans (HB6.out.block i hi)⟩
 have c0 := HR7.out.c0
 have c1 := HR7.out.c1
 have c3 := HR7.out.c3
 clear ha7 hr7 ht7
 simp only [TS.c] at c3
 have hc : ¬ c = 0 := HR7.out.fine c a rfl
 have hc1 : (c != 0) = true := bne_iff_ne.2 hc
 have hc2 : (c == 0) = false := beq_eq_false_iff_ne.2 hc
 clear hc
 go_wp2_with (fail)
 go_quiet (fail)
 obtain ⟨W9, eW9⟩ : ∃ W9, w7.drewN nq = W9 := ⟨_, rfl⟩
 have hb9 : Below w7.heap.size w7 W9 := by rw [← eW9]; exact below_drewN (Below.refl _ _) nq
 have HR9 := Hd (HR7.out.below hb9)
 have HF9 := Hd (HF7.out.below hb9)
 have HB9 := Hd (HB7.out.trans (hb9.mono HB7.out.size))
 have hcf3 : W9.cell? ⟨w3.heap.size, 3, none⟩ = some (.int .i64 c) := HR9.out.c3
 have hcf4 : W9.cell? ⟨w3.heap.size, 4, none⟩ = some (.int .i64 a) := HR9.out.c4
 rw [eW9]
 clear eW9 hb9 c0 c1 c3
 go_upto_region 9 with fail
 have hFd : Blk W9 w.heap.size [.int .i64 0, .int .i64 0] 35 := HF9.out
 have f0 : W9.frozen? ⟨w.heap.size, 0, none⟩ = false := hFd.fz 0
 have f1 : W9.frozen? ⟨w.heap.size, 1, none⟩ = false := hFd.fz 1
 have g0 : W9.cell? ⟨w.heap.size, 0, none⟩ = some (.int .i64 0) := hFd.cell 0
 have g1 : W9.cell? ⟨w.heap.size, 1, none⟩ = some (.int .i64 0) := hFd.cell 1
 obtain ⟨V1, eV1⟩ : ∃ V1, (W9.setCell ⟨w.heap.size, 0, none⟩ (.int .i64 c)).setCell ⟨w.heap.size, 1, none⟩ (.int .i64 a) = V1 := ⟨_, rfl⟩
 have hb : w3.heap.size ≠ w.heap.size := by have := HN6.out; omega
 have hFe : Blk V1 w.heap.size [.int .i64 c, .int .i64 a] 35 := by
  have := (hFd.set 0 (.int .i64 c)).set 1 (.int .i64 a)
  rw [← eV1]
  simpa using this
 have hk3 : ∀ o, V1.cell? ⟨w3.heap.size, o, none⟩ = W9.cell? ⟨w3.heap.size, o, none⟩ := fun o => by
  rw [← eV1, World.cell?_setCell_far _ _ _ _ (fun e => hb e.symm), World.cell?_setCell_far _ _ _ _ (fun e => hb e.symm)]
 have HBe : Below w.heap.size w V1 := by rw [← eV1]; exact (HB9.out.setCell (Nat.le_refl _) _).setCell (Nat.le_refl _) _
 have HK1 : Hid (W9.drew.cell? ⟨w3.heap.size, 3, none⟩ = some (.int .i64 c) ∧ W9.drew.cell? ⟨w3.heap.size, 4, none⟩ = some (.int .i64 a)) := ⟨hcf3, hcf4⟩
 have hK2 : V1.drew.cell? ⟨w3.heap.size, 3, none⟩ = some (.int .i64 c) ∧ V1.drew.cell? ⟨w3.heap.size, 4, none⟩ = some (.int .i64 a) := ⟨(hk3 3).trans hcf3, (hk3 4).trans hcf4⟩
 have hG : V1.drew.cell? ⟨w.heap.size, 0, none⟩ = some (.int .i64 c) ∧ V1.drew.cell? ⟨w.heap.size, 1, none⟩ = some (.int .i64 a) ∧ Below w.heap.size w V1.drew := ⟨hFe.cell 0, hFe.cell 1, HBe.drew⟩
 rw [← eV1] at hK2 hG
 have HK2 := Hd hK2
 have HG := Hd hG
 clear hFd hFe hk3 HBe hK2 hG eV1 hcf3 hcf4
 go_region_held3 (fun w' => w'.cell? ⟨w3.heap.size, 3, none⟩ = some (.int .i64 c) ∧ w'.cell? ⟨w3.heap.size, 4, none⟩ = some (.int .i64 a))
  (first | with_reducible exact HK1.out | with_reducible exact HK2.out)
  (fail)
 all_goals go_wp2_with (fail)
 all_goals rw [HPX.out]
 all_goals exact bodyPost_ret (pairL_done _ rfl rfl HG.out.1 HG.out.2.1) rfl ⟨_, rfl, lbl_nil _, HG.out.2.2⟩
theorem readRL_more (s : Txt) (w : World) {T : List Tok} (hs : scanOf s = (T, 0, 0)) {x : Lab} {k : Nat} (hq : labelP T s.size 0 = .ok x k) (hk : k < T.length) (htok : ∀ W, Below w.heap.size w W → Calls Tryz.prog 144 #[.string s] W fun e w' => ∃ y, e = .returned (.tuple #[y, .agg #[.int .i64 0, .int .i64 0]]) ∧ Toks w' T y ∧ Below W.heap.size W w')
 (hsz : s.size ≤ 4000) :
 Calls Tryz.prog 72 #[.string s, .func (.func 73) #[] #[]] w (ReadsL w (readL s)) := by
 obtain ⟨W2, eW⟩ : ∃ W2, w.alloc (.cells #[.int .i64 0, .int .i64 0] 35) = W2 := ⟨_, rfl⟩
 obtain ⟨z2, hb2, m0⟩ := boxes1 eW
 have hC2 : Blk W2 w.heap.size [.int .i64 0, .int .i64 0] 35 := by rw [← eW]; exact Blk.new _ _ _
 have HB2 := Hd hb2
 have HF2 := Hd hC2
 have HTOK := Hd (htok W2 hb2)
 have HPX : Hid (readL s = ([], 1, tkAt T s.size k)) := by unfold Hid readL; simp [hs, hq, hk]
 have HRUN : Hid ((TS.go 0).run (labelP T s.size) = .go k) := by unfold Hid; simp only [TS.run, hq]
 have HSAME : Hid (∀ y, (TS.go 0).tells (labelP T s.size) y → y = x) := fun y hy => hy 0 x k rfl hq
 clear hb2 m0 hC2 htok hq hs
 go_enter Tryz.func72, Tryz.ntmps72
 go_wp2_with (fail)
 clear eW
 refine HTOK.out.mono ?_
 rintro e w3 ⟨tv, rfl, htk, hb3⟩
 have htk' := htk
 obtain ⟨pt, ct, rfl, _⟩ := htk'
 have hF3 := HF2.out.below hb3
 have HF3 := Hd hF3
 have HB3 := Hd (HB2.out.trans (hb3.mono HB2.out.size))
 have j0 := hF3.cell 0
 have j1 := hF3.cell 1
 simp only [List.getElem?_cons_zero, List.getElem?_cons_succ] at j0 j1
 have l0 := hF3.fz 0
 have l1 := hF3.fz 1
 have s1 : w3.setCell ⟨w.heap.size, 0, none⟩ (.int .i64 0) = w3 := hF3.same rfl
 have s2 : w3.setCell ⟨w.heap.size, 1, none⟩ (.int .i64 0) = w3 := hF3.same rfl
 obtain ⟨W6, eW6⟩ : ∃ W, w3.alloc (.cells #[.slice pt T.length ct, .int .i64 0, .int .i64 s.size, .int .i64 0, .int .i64 0, .int .i64 0, .int .i64 0] 177) = W := ⟨_, rfl⟩
 have hb6 : Below w3.heap.size w3 W6 := by rw [← eW6]; exact (Below.refl _ _).alloc (Nat.le_refl _) _
 have hX6 : Blk W6 w3.heap.size [.slice pt T.length ct, .int .i64 0, .int .i64 s.size, .int .i64 0, .int .i64 0, .int .i64 0, .int .i64 0] 177 := by rw [← eW6]; exact Blk.new _ _ _
 have hr6 : Txr W6 w3.heap.size T s.size (.slice pt T.length ct) (.go 0) 0 0 := ⟨hX6, htk.stays ⟨by rw [mask_size]; exact hb6.size, fun b o v hv => by
  rw [mask_cell, if_neg (by have := cell_lt hv; simp at this ⊢; omega)]
  exact (keeps_of_below hb6).2 _ _ _ hv⟩, fun c a e => by cases e⟩
 have HC6 := Hd (tlabel_calls hr6)
 have HF6 := Hd (HF3.out.below hb6)
 have HB6 := Hd (HB3.out.trans (hb6.mono HB3.out.size))
 have HN6 : Hid (w.heap.size < w3.heap.size ∧ W6.heap.size = w3.heap.size + 1) := ⟨HF3.out.lt, by rw [← eW6]; simp⟩
 clear hF3 hb3 htk hb6 hX6 hr6
 go_wp2_with (fail)
 clear j0 j1 l0 l1 s1 s2 eW6
 refine HC6.out.mono ?_
 rintro e w7 ⟨ha7, v7, y, rfl, hr7, hx7, ht7⟩
 rw [HRUN.out] at hr7
 obtain rfl : y = x := HSAME.out y ht7
 have HY7 : Hid (Lbl (since W6.heap.size w7) y v7) := hx7
 obtain ⟨pl, cl, rfl, _⟩ := hx7
 have HR7 := Hd hr7
 have HF7 := Hd (HF6.out.aside ha7 (by have := HN6.out; omega))
 have HB7 : Hid (Below w.heap.size w w7) := ⟨ha7.os.trans HB6.out.os, ha7.tape.trans HB6.out.tape, ha7.output.trans HB6.out.output, Nat.le_trans HB6.out.size ha7.size, fun i hi => (ha7.block i (Nat.lt_of_lt_of_le hi HB6.out.size) (fun e => by simp at e; have := HN6.out; omega)).trans (HB6.out.block i hi)⟩
 have c0 := HR7.out.c0
 have c1 := HR7.out.c1
 have c3 := HR7.out.c3
 clear ha7 hr7 ht7
 simp only [TS.c, TS.k] at c3 c1
 have hk1 : (k : Int) < (T.length : Int) := by omega
 go_wp2_with (fail)
 go_quiet (fail)
 obtain ⟨W9, eW9⟩ : ∃ W9, w7.drewN nq = W9 := ⟨_, rfl⟩
 have hb9 : Below w7.heap.size w7 W9 := by rw [← eW9]; exact below_drewN (Below.refl _ _) nq
 have HR9 := Hd (HR7.out.below hb9)
 have HF9 := Hd (HF7.out.below hb9)
 have HB9 := Hd (HB7.out.trans (hb9.mono HB7.out.size))
 have HWR : Hid (Calls Tryz.prog 145 #[.pointer (some ⟨w3.heap.size, 0, none⟩), .int .i64 1] W9 fun e w' => e = .returned (.tuple #[]) ∧ Aside1 w3.heap.size W9 w' ∧ Txr w' w3.heap.size T s.size (.slice pt T.length ct) (.stop 1 (tkAt T s.size k)) 0 0) := wrong_calls HR9.out 1 (by decide)
 rw [eW9]
 clear eW9 hb9 c0 c1 c3
 go_wp2_with (fail)
 refine HWR.out.mono ?_
 rintro e Wb ⟨rfl, hab, hrb⟩
 have HFb := Hd (HF9.out.aside hab (by have := HN6.out; omega))
 have HBb : Hid (Below w.heap.size w Wb) := ⟨hab.os.trans HB9.out.os, hab.tape.trans HB9.out.tape, hab.output.trans HB9.out.output, Nat.le_trans HB9.out.size hab.size, fun i hi => (hab.block i (Nat.lt_of_lt_of_le hi HB9.out.size) (fun e => by simp at e; have := HN6.out; omega)).trans (HB9.out.block i hi)⟩
 have hcf3 : Wb.cell? ⟨w3.heap.size, 3, none⟩ = some (.int .i64 1) := hrb.c3
 have hcf4 : Wb.cell? ⟨w3.heap.size, 4, none⟩ = some (.int .i64 (tkAt T s.size k)) := hrb.c4
 clear hab hrb
 go_upto_region 9 with fail
 have hFd : Blk Wb w.heap.size [.int .i64 0, .int .i64 0] 35 := HFb.out
 have f0 : Wb.frozen? ⟨w.heap.size, 0, none⟩ = false := hFd.fz 0
 have f1 : Wb.frozen? ⟨w.heap.size, 1, none⟩ = false := hFd.fz 1
 have g0 : Wb.cell? ⟨w.heap.size, 0, none⟩ = some (.int .i64 0) := hFd.cell 0
 have g1 : Wb.cell? ⟨w.heap.size, 1, none⟩ = some (.int .i64 0) := hFd.cell 1
 obtain ⟨V1, eV1⟩ : ∃ V1, (Wb.setCell ⟨w.heap.size, 0, none⟩ (.int .i64 1)).setCell ⟨w.heap.size, 1, none⟩ (.int .i64 (tkAt T s.size k)) = V1 := ⟨_, rfl⟩
 have hb : w3.heap.size ≠ w.heap.size := by have := HN6.out; omega
 have hFe : Blk V1 w.heap.size [.int .i64 1, .int .i64 (tkAt T s.size k)] 35 := by
  have := (hFd.set 0 (.int .i64 1)).set 1 (.int .i64 (tkAt T s.size k))
  rw [← eV1]
  simpa using this
 have hk3 : ∀ o, V1.cell? ⟨w3.heap.size, o, none⟩ = Wb.cell? ⟨w3.heap.size, o, none⟩ := fun o => by
  rw [← eV1, World.cell?_setCell_far _ _ _ _ (fun e => hb e.symm), World.cell?_setCell_far _ _ _ _ (fun e => hb e.symm)]
 have HBe : Below w.heap.size w V1 := by rw [← eV1]; exact (HBb.out.setCell (Nat.le_refl _) _).setCell (Nat.le_refl _) _
 have HK1 : Hid (Wb.drew.cell? ⟨w3.heap.size, 3, none⟩ = some (.int .i64 1) ∧ Wb.drew.cell? ⟨w3.heap.size, 4, none⟩ = some (.int .i64 (tkAt T s.size k))) := ⟨hcf3, hcf4⟩
 have hK2 : V1.drew.cell? ⟨w3.heap.size, 3, none⟩ = some (.int .i64 1) ∧ V1.drew.cell? ⟨w3.heap.size, 4, none⟩ = some (.int .i64 (tkAt T s.size k)) := ⟨(hk3 3).trans hcf3, (hk3 4).trans hcf4⟩
 have hG : V1.drew.cell? ⟨w.heap.size, 0, none⟩ = some (.int .i64 1) ∧ V1.drew.cell? ⟨w.heap.size, 1, none⟩ = some (.int .i64 (tkAt T s.size k)) ∧ Below w.heap.size w V1.drew := ⟨hFe.cell 0, hFe.cell 1, HBe.drew⟩
 rw [← eV1] at hK2 hG
 have HK2 := Hd hK2
 have HG := Hd hG
 clear hFd hFe hk3 HBe hK2 hG eV1 hcf3 hcf4
 go_region_held3 (fun w' => w'.cell? ⟨w3.heap.size, 3, none⟩ = some (.int .i64 1) ∧ w'.cell? ⟨w3.heap.size, 4, none⟩ = some (.int .i64 (tkAt T s.size k)))
  (first | with_reducible exact HK1.out | with_reducible exact HK2.out)
  (fail)
 all_goals go_wp2_with (fail)
 all_goals rw [HPX.out]
 all_goals exact bodyPost_ret (pairL_done _ rfl rfl HG.out.1 HG.out.2.1) rfl ⟨_, rfl, lbl_nil _, HG.out.2.2⟩
theorem readRL_done (s : Txt) (w : World) {T : List Tok} (hs : scanOf s = (T, 0, 0)) {x : Lab} {k : Nat} (hq : labelP T s.size 0 = .ok x k) (hk : ¬ k < T.length) (htok : ∀ W, Below w.heap.size w W → Calls Tryz.prog 144 #[.string s] W fun e w' => ∃ y, e = .returned (.tuple #[y, .agg #[.int .i64 0, .int .i64 0]]) ∧ Toks w' T y ∧ Below W.heap.size W w')
 (hsz : s.size ≤ 4000) :
 Calls Tryz.prog 72 #[.string s, .func (.func 73) #[] #[]] w (ReadsL w (readL s)) := by
 obtain ⟨W2, eW⟩ : ∃ W2, w.alloc (.cells #[.int .i64 0, .int .i64 0] 35) = W2 := ⟨_, rfl⟩
 obtain ⟨z2, hb2, m0⟩ := boxes1 eW
 have hC2 : Blk W2 w.heap.size [.int .i64 0, .int .i64 0] 35 := by rw [← eW]; exact Blk.new _ _ _
 have HB2 := Hd hb2
 have HF2 := Hd hC2
 have HTOK := Hd (htok W2 hb2)
 have HPX : Hid (readL s = (x, 0, 0)) := by unfold Hid readL; simp [hs, hq, hk]
 have HRUN : Hid ((TS.go 0).run (labelP T s.size) = .go k) := by unfold Hid; simp only [TS.run, hq]
 have HSAME : Hid (∀ y, (TS.go 0).tells (labelP T s.size) y → y = x) := fun y hy => hy 0 x k rfl hq
 clear hb2 m0 hC2 htok hq hs
 go_enter Tryz.func72, Tryz.ntmps72
 go_wp2_with (fail)
 clear eW
 refine HTOK.out.mono ?_
 rintro e w3 ⟨tv, rfl, htk, hb3⟩
 have htk' := htk
 obtain ⟨pt, ct, rfl, _⟩ := htk'
 have hF3 := HF2.out.below hb3
 have HF3 := Hd hF3
 have HB3 := Hd (HB2.out.trans (hb3.mono HB2.out.size))
 have j0 := hF3.cell 0
 have j1 := hF3.cell 1
 simp only [List.getElem?_cons_zero, List.getElem?_cons_succ] at j0 j1
 have l0 := hF3.fz 0
 have l1 := hF3.fz 1
 have s1 : w3.setCell ⟨w.heap.size, 0, none⟩ (.int .i64 0) = w3 := hF3.same rfl
 have s2 : w3.setCell ⟨w.heap.size, 1, none⟩ (.int .i64 0) = w3 := hF3.same rfl
 obtain ⟨W6, eW6⟩ : ∃ W, w3.alloc (.cells #[.slice pt T.length ct, .int .i64 0, .int .i64 s.size, .int .i64 0, .int .i64 0, .int .i64 0, .int .i64 0] 177) = W := ⟨_, rfl⟩
 have hb6 : Below w3.heap.size w3 W6 := by rw [← eW6]; exact (Below.refl _ _).alloc (Nat.le_refl _) _
 have hX6 : Blk W6 w3.heap.size [.slice pt T.length ct, .int .i64 0, .int .i64 s.size, .int .i64 0, .int .i64 0, .int .i64 0, .int .i64 0] 177 := by rw [← eW6]; exact Blk.new _ _ _
 have hr6 : Txr W6 w3.heap.size T s.size (.slice pt T.length ct) (.go 0) 0 0 := ⟨hX6, htk.stays ⟨by rw [mask_size]; exact hb6.size, fun b o v hv => by
  rw [mask_cell, if_neg (by have := cell_lt hv; simp at this ⊢; omega)]
  exact (keeps_of_below hb6).2 _ _ _ hv⟩, fun c a e => by cases e⟩
 have HC6 := Hd (tlabel_calls hr6)
 have HF6 := Hd (HF3.out.below hb6)
 have HB6 := Hd (HB3.out.trans (hb6.mono HB3.out.size))
 have HN6 : Hid (w.heap.size < w3.heap.size ∧ W6.heap.size = w3.heap.size + 1) := ⟨HF3.out.lt, by rw [← eW6]; simp⟩
 clear hF3 hb3 htk hb6 hX6 hr6
 go_wp2_with (fail)
 clear j0 j1 l0 l1 s1 s2 eW6
 refine HC6.out.mono ?_
 rintro e w7 ⟨ha7, v7, y, rfl, hr7, hx7, ht7⟩
 rw [HRUN.out] at hr7
 obtain rfl : y = x := HSAME.out y ht7
 have HY7 : Hid (Lbl (since W6.heap.size w7) y v7) := hx7
 obtain ⟨pl, cl, rfl, _⟩ := hx7
 have HR7 := Hd hr7
 have HF7 := Hd (HF6.out.aside ha7 (by have := HN6.out; omega))
 have HB7 : Hid (Below w.heap.size w w7) := ⟨ha7.os.trans HB6.out.os, ha7.tape.trans HB6.out.tape, ha7.output.trans HB6.out.output, Nat.le_trans HB6.out.size ha7.size, fun i hi => (ha7.block i (Nat.lt_of_lt_of_le hi HB6.out.size) (fun e => by simp at e; have := HN6.out; omega)).trans (HB6.out.block i hi)⟩
 have c0 := HR7.out.c0
 have c1 := HR7.out.c1
 have c3 := HR7.out.c3
 clear ha7 hr7 ht7
 simp only [TS.c, TS.k] at c3 c1
 have hk1 : ¬ (k : Int) < (T.length : Int) := by omega
 have hk2 : (T.length : Int) ≤ (k : Int) := by omega
 go_wp2_with (fail)
 go_quiet (fail)
 obtain ⟨W9, eW9⟩ : ∃ W9, w7.drewN nq = W9 := ⟨_, rfl⟩
 have hb9 : Below w7.heap.size w7 W9 := by rw [← eW9]; exact below_drewN (Below.refl _ _) nq
 have HR9 := Hd (HR7.out.below hb9)
 have HF9 := Hd (HF7.out.below hb9)
 have HB9 := Hd (HB7.out.trans (hb9.mono HB7.out.size))
 have HY9 : Hid (Lbl (since w.heap.size W9) y (.slice pl y.length cl)) := (Lbl.stays (keeps_hide hb9.size fun b hb hp => ⟨hp, hb9.block b hb⟩ : Keeps (since W6.heap.size w7) (since W6.heap.size W9)) HY7.out).stays (since_mono _ (by have h1 := HN6.out; omega))
 have c3 : W9.cell? ⟨w3.heap.size, 3, none⟩ = some (.int .i64 0) := HR9.out.c3
 rw [eW9]
 clear eW9 hb9 c0 c1
 go_upto_region 10 with fail
 clear c3
 have hFd : Blk W9.drew w.heap.size [.int .i64 0, .int .i64 0] 35 := HF9.out
 have HBd : Hid (Below w.heap.size w W9.drew) := HB9.out.drew
 have f0 := hFd.fz 0
 have f1 := hFd.fz 1
 have s1 : W9.drew.setCell ⟨w.heap.size, 0, none⟩ (.int .i64 0) = W9.drew := hFd.same rfl
 have s2 : W9.drew.setCell ⟨w.heap.size, 1, none⟩ (.int .i64 0) = W9.drew := hFd.same rfl
 have g0 : W9.drew.cell? ⟨w.heap.size, 0, none⟩ = some (.int .i64 0) := hFd.cell 0
 have g1 : W9.drew.cell? ⟨w.heap.size, 1, none⟩ = some (.int .i64 0) := hFd.cell 1
 have HK1 : Hid (W9.drew.cell? ⟨w.heap.size, 0, none⟩ = some (.int .i64 0) ∧ W9.drew.cell? ⟨w.heap.size, 1, none⟩ = some (.int .i64 0)) := ⟨g0, g1⟩
 have HYE : Hid (Lbl (since w.heap.size W9.drew) y (.slice pl y.length cl)) := HY9.out
 clear hFd
 go_region_held3 (fun w' => w'.cell? ⟨w.heap.size, 0, none⟩ = some (.int .i64 0) ∧ w'.cell? ⟨w.heap.size, 1, none⟩ = some (.int .i64 0))
  (with_reducible exact HK1.out)
  (fail)
 all_goals go_wp2_with (fail)
 all_goals rw [HPX.out]
 all_goals exact bodyPost_ret (pairL_done _ rfl rfl HK1.out.1 HK1.out.2) rfl ⟨_, rfl, HYE.out, HBd.out⟩
theorem readRL_calls (s : Txt) (w : World) (htok : ∀ W, Below w.heap.size w W → Calls Tryz.prog 144 #[.string s] W fun e w' => ∃ y, e = .returned (.tuple #[y, .agg #[.int .i64 (scanOf s).2.1, .int .i64 (scanOf s).2.2]]) ∧ Toks w' (scanOf s).1 y ∧ Below W.heap.size W w') :
 Calls Tryz.prog 72 #[.string s, .func (.func 73) #[] #[]] w (ReadsL w (readL s)) := by
 by_cases hc : (scanOf s).2.1 = 0
 · obtain ⟨T, q, hs⟩ : ∃ T q, scanOf s = (T, 0, q) := ⟨(scanOf s).1, (scanOf s).2.2, by rw [← hc]⟩
   obtain rfl := scanOf_zero hs
   obtain ⟨h1, h2, h3⟩ := scanOf_stands hs
   rw [hs] at htok
   cases hq : labelP T s.size 0 with
   | bad c a => exact readRL_bad s w hs hq htok h1
   | ok x k =>
     by_cases hk : k < T.length
     · exact readRL_more s w hs hq hk htok h1
     · exact readRL_done s w hs hq hk htok h1
 · exact readRL_none s w hc htok
theorem readLabel_calls (s : Txt) (w : World) (htok : ∀ W, Below w.heap.size w W → Calls Tryz.prog 144 #[.string s] W fun e w' => ∃ y, e = .returned (.tuple #[y, .agg #[.int .i64 (scanOf s).2.1, .int .i64 (scanOf s).2.2]]) ∧ Toks w' (scanOf s).1 y ∧ Below W.heap.size W w') :
 Calls Tryz.prog 30 #[.string s] w (ReadsL w (readL s)) := by
 obtain ⟨W2, eW⟩ : ∃ W2, w.alloc (.cells #[.int .i64 0, .int .i64 0] 35) = W2 := ⟨_, rfl⟩
 obtain ⟨z2, hb2, m0⟩ := boxes1 eW
 have hC2 : Blk W2 w.heap.size [.int .i64 0, .int .i64 0] 35 := by rw [← eW]; exact Blk.new _ _ _
 have HB2 := Hd hb2
 have HF2 := Hd hC2
 have HW2 : Hid (W2.heap.size = w.heap.size + 1) := z2
 have HRD := Hd (readRL_calls s W2 fun W hW => htok W (hb2.trans (hW.mono hb2.size)))
 clear hb2 m0 hC2 htok z2
 generalize readL s = r at *
 obtain ⟨l, c, a⟩ := r
 go_enter Tryz.func30, Tryz.ntmps30
 go_wp2_with (fail)
 clear eW
 refine HRD.out.mono ?_
 rintro e w3 ⟨v, rfl, hl3, hb3⟩
 have HL3 := Hd hl3
 obtain ⟨pl, cl, rfl, _⟩ := hl3
 have hF3 := HF2.out.below hb3
 have HB3 := Hd (HB2.out.trans (hb3.mono HB2.out.size))
 have j0 := hF3.cell 0
 have j1 := hF3.cell 1
 simp only [List.getElem?_cons_zero, List.getElem?_cons_succ] at j0 j1
 have l0 := hF3.fz 0
 have l1 := hF3.fz 1
 have hFe := (hF3.set 0 (.int .i64 c)).set 1 (.int .i64 a)
 have HG : Hid (((w3.setCell ⟨w.heap.size, 0, none⟩ (.int .i64 c)).setCell ⟨w.heap.size, 1, none⟩ (.int .i64 a)).cell? ⟨w.heap.size, 0, none⟩ = some (.int .i64 c) ∧ ((w3.setCell ⟨w.heap.size, 0, none⟩ (.int .i64 c)).setCell ⟨w.heap.size, 1, none⟩ (.int .i64 a)).cell? ⟨w.heap.size, 1, none⟩ = some (.int .i64 a) ∧ Below w.heap.size w ((w3.setCell ⟨w.heap.size, 0, none⟩ (.int .i64 c)).setCell ⟨w.heap.size, 1, none⟩ (.int .i64 a)) ∧ Lbl (since w.heap.size ((w3.setCell ⟨w.heap.size, 0, none⟩ (.int .i64 c)).setCell ⟨w.heap.size, 1, none⟩ (.int .i64 a))) l (.slice pl l.length cl)) :=
  ⟨by simpa using hFe.cell 0, by simpa using hFe.cell 1, (HB3.out.setCell (Nat.le_refl _) _).setCell (Nat.le_refl _) _, (Lbl.stays ((since_set _ _ _ (by have := HW2.out; omega)).trans (since_set _ _ _ (by have := HW2.out; omega))) HL3.out).stays (since_mono _ (by have := HW2.out; omega))⟩
 clear hFe hF3 hb3
 go_wp2_with (fail)
 exact bodyPost_ret (v := .tuple #[.slice pl l.length cl, .agg #[.int .i64 c, .int .i64 a]]) (by simp [results, Tryz.results30, go_sem, HG.out.1, HG.out.2.1]) rfl ⟨_, rfl, HG.out.2.2.2, HG.out.2.2.1⟩
end
section
open Go.RowKit Go.Maps
theorem readsL_bad {w W : World} {tmps : Array Value} {c a c0 a0 : Int} {x0 : Value} (ht4 : tmps[4]? = some (.pointer (some ⟨w.heap.size, 0, none⟩))) (ht5 : tmps[5]? = some (.pointer (some ⟨w.heap.size + 1, 0, none⟩)))
 (hb : Below w.heap.size w W) (h4 : Blk W w.heap.size [x0] 23) (h5 : Blk W (w.heap.size + 1) [.int .i64 c0, .int .i64 a0] 35) :
 Leaves Tryz.prog Tryz.f48 tmps (ReadsL w ([], c, a)) [{ target := .fn (.func 125) #[.pointer (some ⟨w.heap.size, 0, none⟩), .pointer (some ⟨w.heap.size + 1, 0, none⟩)], args := #[] }] (.panicking [{ v := stopV c a, recovered := false }]) W := by
 refine leaves_cons (f := 125) (args := #[.pointer (some ⟨w.heap.size, 0, none⟩), .pointer (some ⟨w.heap.size + 1, 0, none⟩)]) (by simp) (by simp [go_sem]) ?_
 refine (catchL_stop w.heap.size (w.heap.size + 1) W c a c0 a0 x0 h4 h5 (by omega)).mono ?_
 rintro e u' w'' ⟨rfl, rfl, g4, g5, g6⟩
 have q0 := g4.cell 0
 have r0 := g5.cell 0
 have r1 := g5.cell 1
 simp only [List.getElem?_cons_zero, List.getElem?_cons_succ] at q0 r0 r1
 refine ⟨.tuple #[.slice none 0 0, .agg #[.int .i64 c, .int .i64 a]], ?_, _, rfl, lbl_nil _, g6 _ _ (Nat.le_refl _) (by omega) hb.size hb⟩
 simp [results, Tryz.results48, go_sem, ht4, ht5, q0, r0, r1]
theorem readsL_ok {w W : World} {tmps : Array Value} {c a : Int} {x : Lab} {x0 : Value} (ht4 : tmps[4]? = some (.pointer (some ⟨w.heap.size, 0, none⟩))) (ht5 : tmps[5]? = some (.pointer (some ⟨w.heap.size + 1, 0, none⟩)))
 (hb : Below w.heap.size w W) (h4 : Blk W w.heap.size [x0] 23) (h5 : Blk W (w.heap.size + 1) [.int .i64 c, .int .i64 a] 35) (hx : Lbl (since w.heap.size W) x x0) :
 Leaves Tryz.prog Tryz.f48 tmps (ReadsL w (x, c, a)) [{ target := .fn (.func 125) #[.pointer (some ⟨w.heap.size, 0, none⟩), .pointer (some ⟨w.heap.size + 1, 0, none⟩)], args := #[] }] .returning W := by
 refine leaves_cons (f := 125) (args := #[.pointer (some ⟨w.heap.size, 0, none⟩), .pointer (some ⟨w.heap.size + 1, 0, none⟩)]) (by simp) (by simp [go_sem]) ?_
 refine (catchL_idle w.heap.size (w.heap.size + 1) W).mono ?_
 rintro e u' w'' ⟨rfl, rfl, rfl⟩
 have q0 := h4.cell 0
 have r0 := h5.cell 0
 have r1 := h5.cell 1
 simp only [List.getElem?_cons_zero, List.getElem?_cons_succ] at q0 r0 r1
 refine ⟨.tuple #[x0, .agg #[.int .i64 c, .int .i64 a]], ?_, _, rfl, hx, hb⟩
 simp [results, Tryz.results48, go_sem, ht4, ht5, q0, r0, r1]
theorem readsL_none {w W : World} {tmps : Array Value} {c a : Int} {x : Lab} {x0 : Value} (ht4 : tmps[4]? = some (.pointer (some ⟨w.heap.size, 0, none⟩))) (ht5 : tmps[5]? = some (.pointer (some ⟨w.heap.size + 1, 0, none⟩)))
 (hb : Below w.heap.size w W) (h4 : Blk W w.heap.size [x0] 23) (h5 : Blk W (w.heap.size + 1) [.int .i64 c, .int .i64 a] 35) (hx : Lbl (since w.heap.size W) x x0) :
 Leaves Tryz.prog Tryz.f48 tmps (ReadsL w (x, c, a)) [] .returning W := by
 have q0 := h4.cell 0
 have r0 := h5.cell 0
 have r1 := h5.cell 1
 simp only [List.getElem?_cons_zero, List.getElem?_cons_succ] at q0 r0 r1
 refine ⟨.tuple #[x0, .agg #[.int .i64 c, .int .i64 a]], ?_, _, rfl, hx, hb⟩
 simp [results, Tryz.results48, go_sem, ht4, ht5, q0, r0, r1]
end
section
open Go.RowKit Go.Maps
theorem readLP_calls (s : Txt) (w : World) (ht : Tab w) : Calls Tryz.prog 48 #[.string s, .func (.func 49) #[] #[]] w (ReadsL w (readL s)) := by
 have hmf := mf_run
 have eg : ∀ args w, (callFunc 49 args).run Tryz.prog w = .ok (.enter 49 args) w := enters_at Tryz.func49 (by kernel_rfl) rfl
 obtain ⟨W2, eW⟩ : ∃ W2, (w.alloc (.cells #[.slice none 0 0] 23)).alloc (.cells #[.int .i64 0, .int .i64 0] 35) = W2 := ⟨_, rfl⟩
 obtain ⟨z2, hb2, m0, m1⟩ := boxes2 eW
 have hB2 : Blk W2 w.heap.size [.slice none 0 0] 23 := by rw [← eW]; exact (Blk.new _ _ _).below ((Below.refl _ _).alloc (Nat.le_refl _) _)
 have hC2 : Blk W2 (w.heap.size + 1) [.int .i64 0, .int .i64 0] 35 := by rw [← eW]; exact Blk.new2 _ _ _ _ _
 have HB2 := Hd hb2
 have HSC := Hd (scan_calls s W2)
 have HE2 := Hd hB2
 have HF2 := Hd hC2
 have HTB := Hd ht
 clear hb2 m0 m1 z2 hB2 hC2 ht
 by_cases hc : (scanOf s).2.1 = 0
 · obtain ⟨T, hT⟩ : ∃ T, scanOf s = (T, 0, 0) := by
    refine ⟨(scanOf s).1, ?_⟩
    have h1 : scanOf s = ((scanOf s).1, 0, (scanOf s).2.2) := by rw [← hc]
    have h2 := scanOf_zero h1
    rw [h2] at h1
    exact h1
   obtain ⟨hs4, hT6, hST⟩ := scanOf_stands hT
   have HRX : Hid (readL s = match labelP T s.size 0 with
    | .ok x k => if k < T.length then ([], 1, tkAt T s.size k) else (x, 0, 0)
    | .bad c a => ([], c, a)) := by unfold Hid readL; rw [if_pos hc, hT]; try rfl
   rw [hT] at HSC
   have HST := Hd hST
   have HT6 := Hd hT6
   have HS4 := Hd hs4
   clear hc hT hs4 hT6 hST
   have HSC2 : Hid (Calls Tryz.prog 45 #[.string s] W2 fun e w' => ∃ y, e = .returned (.tuple #[y, .agg #[.int .i64 0, .int .i64 0]]) ∧ Toks w' T y ∧ Below W2.heap.size W2 w') := HSC.out
   clear HSC
   go_enter_defers Tryz.func48, Tryz.ntmps48
   go_wp2_with (fail)
   clear eW
   refine HSC2.out.mono ?_
   rintro e w3 ⟨y, rfl, hy, hb3⟩
   have HE3 := Hd (HE2.out.below hb3)
   have HF3 := Hd (HF2.out.below hb3)
   have HB3 := Hd (HB2.out.trans (hb3.mono HB2.out.size))
   have HCL := Hd (cloneTok_calls T y w3 hy HT6.out)
   have r0 := HF3.out.cell 0
   have r1 := HF3.out.cell 1
   simp only [List.getElem?_cons_zero, List.getElem?_cons_succ] at r0 r1
   have k0 := HF3.out.fz 0
   have k1 := HF3.out.fz 1
   have s7 := HF3.out.same (i := 0) rfl
   have s8 := HF3.out.same (i := 1) rfl
   obtain ⟨_, _, cy, py, rfl, _⟩ := hy.cells
   clear hb3 hy HSC2
   go_wp2_with (fail)
   refine HCL.out.mono ?_
   rintro e w5 ⟨v5, rfl, ht5, hb5⟩
   obtain ⟨_, _, c5, p5, rfl, _⟩ := ht5.cells
   have HTK := Hd ht5
   have HB35 : Hid (w3.heap.size ≤ w5.heap.size ∧ w.heap.size + 1 < w3.heap.size) := ⟨hb5.size, HF3.out.lt⟩
   replace ht5 := ht5.stays (hide_keeps _ _)
   obtain ⟨W6, eW6⟩ : ∃ W6, w5.alloc (.cells #[.slice p5 T.length c5, .int .i64 0, .int .i64 s.size, .int .i64 0, .int .i64 0] 164) = W6 := ⟨_, rfl⟩
   have hb6 : Below w5.heap.size w5 W6 := by rw [← eW6]; exact (Below.refl _ _).alloc (Nat.le_refl _) _
   have hB6 : Blk W6 w5.heap.size [.slice p5 T.length c5, .int .i64 0, .int .i64 s.size, .int .i64 0, .int .i64 0] 164 := by rw [← eW6]; exact Blk.new _ _ _
   have hb56 := hb5.trans (hb6.mono hb5.size)
   have HRD : Hid (Rdr W6 w5.heap.size T s.size (.slice p5 T.length c5) 0 0 0) := ⟨hB6, ht5.stays (mask_new (Nat.le_refl _) hb6), tab_mask (HTB.out.below (HB3.out.trans (hb5.mono HB3.out.size))) (Nat.le_refl _) hb6⟩
   have HW65 : Hid (w5.heap.size ≤ W6.heap.size) := hb6.size
   have HW6B : Hid (∀ b, b < w5.heap.size → W6.heap[b]? = w5.heap[b]?) := fun b h => hb6.block b h
   have HB6 := Hd (HB3.out.trans (hb56.mono HB3.out.size))
   have HE6 := Hd (HE3.out.below hb56)
   have HF6 := Hd (HF3.out.below hb56)
   have HN5 : Hid (w.heap.size + 1 < w5.heap.size) := by have h1 := HF3.out.lt; have h2 := hb5.size; unfold Hid; omega
   have HXC := Hd (label_calls HRD.out)
   clear hb5 hb6 hb56 hB6 ht5 r0 r1 k0 k1 s7 s8 HCL
   cases hr : labelP T s.size 0 with
   | bad c a =>
     rw [hr] at HXC HRX
     have HRY : Hid (readL s = ([], c, a)) := HRX.out
     clear hr HRX
     go_wp2_with (fail)
     refine HXC.out.mono ?_
     rintro e w7 ⟨ha, rfl, hlf⟩
     have HB7 := Hd (below_of_aside HB6.out (Nat.le_of_lt (Nat.lt_trans (Nat.lt_succ_self _) HN5.out)) ha)
     have HE7 := Hd (HE6.out.aside ha (by have h1 := HN5.out; omega))
     have HF7 := Hd (HF6.out.aside ha (by have h1 := HN5.out; omega))
     clear ha hlf eW6
     go_wp2_with (fail)
     rw [HRY.out]
     exact readsL_bad rfl rfl HB7.out HE7.out HF7.out
   | ok x k =>
     rw [hr] at HXC HRX
     have HRY : Hid (readL s = if k < T.length then ([], 1, tkAt T s.size k) else (x, 0, 0)) := HRX.out
     clear hr HRX
     go_wp2_with (fail)
     refine HXC.out.mono ?_
     rintro e w7 ⟨ha, v7, rfl, hr7, hx7⟩
     have HB7 := Hd (below_of_aside HB6.out (Nat.le_of_lt (Nat.lt_trans (Nat.lt_succ_self _) HN5.out)) ha)
     have hE7 := HE6.out.aside ha (by have h1 := HN5.out; omega)
     have HE7 := Hd hE7
     have HF7 := Hd (HF6.out.aside ha (by have h1 := HN5.out; omega))
     have HX7 := Hd hx7
     have HA7 := Hd ha
     have HR7 := Hd hr7
     obtain ⟨pl, cl, rfl, _⟩ := hx7
     have q0 := hE7.cell 0
     simp only [List.getElem?_cons_zero] at q0
     have f0 := hE7.fz 0
     obtain ⟨W8, eW8⟩ : ∃ W8, w7.setCell ⟨w.heap.size, 0, none⟩ (.slice pl x.length cl) = W8 := ⟨_, rfl⟩
     have hA8 : Aside1 w.heap.size w7 W8 := by rw [← eW8]; exact aside_set _ _
     have HB8 : Hid (Blk W8 w.heap.size [.slice pl x.length cl] 23) := by rw [← eW8]; exact hE7.set 0 _
     have hq8 : ∀ b, b ≠ w.heap.size → W8.heap[b]? = w7.heap[b]? := fun b hb => by rw [← eW8]; exact Below.heap_setCell _ _ _ _ (by simpa using hb)
     have HC8 : Hid (Blk W8 (w.heap.size + 1) [.int .i64 0, .int .i64 0] 35) := (hq8 _ (by omega)).trans HF7.out
     have HW8 : Hid (Below w.heap.size w W8) := ⟨hA8.os.trans HB7.out.os, hA8.tape.trans HB7.out.tape, hA8.output.trans HB7.out.output, Nat.le_trans HB7.out.size hA8.size, fun i hi => (hq8 i (by omega)).trans (HB7.out.block i hi)⟩
     have HX8 : Hid (Lbl (since w.heap.size W8) x (.slice pl x.length cl)) := by
      have h1 := (Lbl.stays (show Keeps (since W6.heap.size w7) (since W6.heap.size W8) from keeps_hide hA8.size fun b hb hp => ⟨hp, hq8 b (by have h1 := HN5.out; have h2 := HRD.out.lt; simp at hp; omega)⟩) HX7.out)
      exact Lbl.stays (since_mono _ (by have h2 := HN5.out; have h3 := HRD.out.lt; omega)) h1
     have HRD8 : Hid (Rdr W8 w5.heap.size T s.size (.slice p5 T.length c5) k 0 0) := ⟨(hq8 _ (by have h1 := HN5.out; omega)).trans hr7.blk,
      HTK.out.stays (keep8 (Nat.le_refl _) (by have h1 := HW65.out; have h2 := ha.size; have h3 := hA8.size; omega) fun b hb hb2 => (hq8 b (by have h1 := HB35.out; omega)).trans ((ha.block b (by have h1 := HW65.out; omega) (fun e => by simp at e; omega)).trans (HW6B.out b hb2))),
      tab_mask HTB.out (by have h1 := HN5.out; omega) HW8.out⟩
     have c1 := HRD8.out.c1
     have c0 := HRD8.out.c0
     clear ha hr7 hE7 hA8 hq8 HXC eW6
     go_wp2_with (fail)
     clear eW8 q0 f0
     by_cases hk : k < T.length
     · have hki : (k : Int) < (T.length : Int) := by omega
       rw [if_pos hk] at HRY
       clear hk
       go_quiet (fail)
       obtain ⟨W9, e9⟩ : ∃ W9, W8.drewN nq = W9 := ⟨_, rfl⟩
       have hb9 : Below W8.heap.size W8 W9 := by rw [← e9]; exact below_drewN (Below.refl _ _) _
       have HFA := Hd (fail_calls (HRD8.out.below hb9) 1)
       have HB9 := Hd hb9
       rw [e9]
       clear e9 hb9 c0 c1
       go_wp2_with (fail)
       refine HFA.out.mono ?_
       rintro e w10 ⟨rfl, hb10⟩
       have hb810 := HB9.out.trans (hb10.mono HB9.out.size)
       have HZ1 := Hd (HW8.out.trans (hb810.mono HW8.out.size))
       have HZ2 := Hd (HB8.out.below hb810)
       have HZ3 := Hd (HC8.out.below hb810)
       clear hb10 hb810
       go_wp2_with (fail)
       rw [HRY.out]
       exact readsL_bad rfl rfl HZ1.out HZ2.out HZ3.out
     · have hki : ¬ (k : Int) < (T.length : Int) := by omega
       rw [if_neg hk] at HRY
       clear hk
       go_quiet (fail)
       obtain ⟨W9, e9⟩ : ∃ W9, W8.drewN nq = W9 := ⟨_, rfl⟩
       have hb9 : Below W8.heap.size W8 W9 := by rw [← e9]; exact below_drewN (Below.refl _ _) _
       have HZ1 := Hd (HW8.out.trans (hb9.mono HW8.out.size))
       have HZ2 := Hd (HB8.out.below hb9)
       have HZ3 := Hd (HC8.out.below hb9)
       have HZX := Hd (Lbl.stays (since_below hb9) HX8.out)
       rw [e9]
       clear e9 hb9 c0 c1
       have q0 := HZ2.out.cell 0
       simp only [List.getElem?_cons_zero] at q0
       have f0 := HZ2.out.fz 0
       have r0 := HZ3.out.cell 0
       have r1 := HZ3.out.cell 1
       simp only [List.getElem?_cons_zero, List.getElem?_cons_succ] at r0 r1
       have k0 := HZ3.out.fz 0
       have k1 := HZ3.out.fz 1
       have s0 := HZ2.out.same (i := 0) rfl
       have s7 := HZ3.out.same (i := 0) rfl
       have s8 := HZ3.out.same (i := 1) rfl
       have HK := Hd (show (W9.drew.cell? ⟨w.heap.size, 0, none⟩ = some (.slice pl x.length cl) ∧ W9.drew.cell? ⟨w.heap.size + 1, 0, none⟩ = some (.int .i64 0) ∧ W9.drew.cell? ⟨w.heap.size + 1, 1, none⟩ = some (.int .i64 0)) from ⟨q0, r0, r1⟩)
       go_wp2_with (fail)
       go_region_held3 (fun w' => w'.cell? ⟨w.heap.size, 0, none⟩ = some (.slice pl x.length cl) ∧ w'.cell? ⟨w.heap.size + 1, 0, none⟩ = some (.int .i64 0) ∧ w'.cell? ⟨w.heap.size + 1, 1, none⟩ = some (.int .i64 0))
        (with_reducible exact HK.out)
        (fail)
       all_goals go_wp2_with (fail)
       all_goals rw [HRY.out]
       all_goals exact readsL_ok rfl rfl HZ1.out.drew HZ2.out HZ3.out (Lbl.stays (since_below (below_drew1 _)) HZX.out)
 · have HRX : Hid (readL s = ([], (scanOf s).2.1, (scanOf s).2.2)) := by unfold Hid readL; rw [if_neg hc]
   have hc1 : ((scanOf s).2.1 == 0) = false := beq_false_of_ne hc
   have hc2 : ((scanOf s).2.1 != 0) = true := by simp [hc]
   clear hc
   generalize (scanOf s).2.1 = c at *
   generalize (scanOf s).2.2 = a at *
   go_enter_defers Tryz.func48, Tryz.ntmps48
   go_wp2_with (fail)
   clear eW
   refine HSC.out.mono ?_
   rintro e w3 ⟨y, rfl, hy, hb3⟩
   have hF3 := HF2.out.below hb3
   have r0 := hF3.cell 0
   have r1 := hF3.cell 1
   simp only [List.getElem?_cons_zero, List.getElem?_cons_succ] at r0 r1
   have k0 := hF3.fz 0
   have k1 := hF3.fz 1
   obtain ⟨W4, eW4⟩ : ∃ W4, (w3.setCell ⟨w.heap.size + 1, 0, none⟩ (.int .i64 c)).setCell ⟨w.heap.size + 1, 1, none⟩ (.int .i64 a) = W4 := ⟨_, rfl⟩
   have HB4 : Hid (Blk W4 w.heap.size [.slice none 0 0] 23) := by rw [← eW4]; exact ((HE2.out.below hb3).other (by omega) _ _).other (by omega) _ _
   have HB5 : Hid (Blk W4 (w.heap.size + 1) [.int .i64 c, .int .i64 a] 35) := by rw [← eW4]; exact (hF3.set 0 (.int .i64 c)).set 1 (.int .i64 a)
   have HW4 : Hid (Below w.heap.size w W4) := by rw [← eW4]; exact ((HB2.out.trans (hb3.mono HB2.out.size)).setCell (show w.heap.size ≤ w.heap.size + 1 by omega) _).setCell (show w.heap.size ≤ w.heap.size + 1 by omega) _
   obtain ⟨_, _, cy, py, rfl, _⟩ := hy.cells
   have u0 := HB5.out.cell 0
   simp only [List.getElem?_cons_zero] at u0
   clear hb3 hy hF3
   go_wp2_with (fail)
   clear eW4 r0 r1 k0 k1 u0
   have q0 := HB4.out.cell 0
   simp only [List.getElem?_cons_zero] at q0
   have f0 := HB4.out.fz 0
   have r0 := HB5.out.cell 0
   have r1 := HB5.out.cell 1
   simp only [List.getElem?_cons_zero, List.getElem?_cons_succ] at r0 r1
   have k0 := HB5.out.fz 0
   have k1 := HB5.out.fz 1
   have s0 := HB4.out.same (i := 0) rfl
   have s7 := HB5.out.same (i := 0) rfl
   have s8 := HB5.out.same (i := 1) rfl
   have HK := Hd (show (W4.drew.cell? ⟨w.heap.size, 0, none⟩ = some (.slice none 0 0) ∧ W4.drew.cell? ⟨w.heap.size + 1, 0, none⟩ = some (.int .i64 c) ∧ W4.drew.cell? ⟨w.heap.size + 1, 1, none⟩ = some (.int .i64 a)) from ⟨q0, r0, r1⟩)
   go_wp2_with (fail)
   go_region_held3 (fun w' => w'.cell? ⟨w.heap.size, 0, none⟩ = some (.slice none 0 0) ∧ w'.cell? ⟨w.heap.size + 1, 0, none⟩ = some (.int .i64 c) ∧ w'.cell? ⟨w.heap.size + 1, 1, none⟩ = some (.int .i64 a))
    (with_reducible exact HK.out)
    (fail)
   all_goals go_wp2_with (fail)
   all_goals rw [HRX.out]
   all_goals exact readsL_none rfl rfl HW4.out.drew HB4.out HB5.out (lbl_nil _)
theorem labelTop_calls (s : Txt) (w : World) (ht : Tab w) :
 Calls Tryz.prog 14 #[.string s] w (ReadsL w (readL s)) := by
 obtain ⟨W2, eW⟩ : ∃ W2, w.alloc (.cells #[.int .i64 0, .int .i64 0] 35) = W2 := ⟨_, rfl⟩
 obtain ⟨z2, hb2, m0⟩ := boxes1 eW
 have hC2 : Blk W2 w.heap.size [.int .i64 0, .int .i64 0] 35 := by rw [← eW]; exact Blk.new _ _ _
 have HB2 := Hd hb2
 have HF2 := Hd hC2
 have HW2 : Hid (W2.heap.size = w.heap.size + 1) := z2
 have HRD := Hd (readLP_calls s W2 (ht.below hb2))
 clear hb2 m0 hC2 ht z2
 generalize readL s = r at *
 obtain ⟨l, c, a⟩ := r
 go_enter Tryz.func14, Tryz.ntmps14
 go_wp2_with (fail)
 clear eW
 refine HRD.out.mono ?_
 rintro e w3 ⟨v, rfl, hl3, hb3⟩
 have HL3 := Hd hl3
 obtain ⟨pl, cl, rfl, _⟩ := hl3
 have hF3 := HF2.out.below hb3
 have HB3 := Hd (HB2.out.trans (hb3.mono HB2.out.size))
 have j0 := hF3.cell 0
 have j1 := hF3.cell 1
 simp only [List.getElem?_cons_zero, List.getElem?_cons_succ] at j0 j1
 have l0 := hF3.fz 0
 have l1 := hF3.fz 1
 have hFe := (hF3.set 0 (.int .i64 c)).set 1 (.int .i64 a)
 have HG : Hid (((w3.setCell ⟨w.heap.size, 0, none⟩ (.int .i64 c)).setCell ⟨w.heap.size, 1, none⟩ (.int .i64 a)).cell? ⟨w.heap.size, 0, none⟩ = some (.int .i64 c) ∧ ((w3.setCell ⟨w.heap.size, 0, none⟩ (.int .i64 c)).setCell ⟨w.heap.size, 1, none⟩ (.int .i64 a)).cell? ⟨w.heap.size, 1, none⟩ = some (.int .i64 a) ∧ Below w.heap.size w ((w3.setCell ⟨w.heap.size, 0, none⟩ (.int .i64 c)).setCell ⟨w.heap.size, 1, none⟩ (.int .i64 a)) ∧ Lbl (since w.heap.size ((w3.setCell ⟨w.heap.size, 0, none⟩ (.int .i64 c)).setCell ⟨w.heap.size, 1, none⟩ (.int .i64 a))) l (.slice pl l.length cl)) :=
  ⟨by simpa using hFe.cell 0, by simpa using hFe.cell 1, (HB3.out.setCell (Nat.le_refl _) _).setCell (Nat.le_refl _) _, (Lbl.stays ((since_set _ _ _ (by have := HW2.out; omega)).trans (since_set _ _ _ (by have := HW2.out; omega))) HL3.out).stays (since_mono _ (by have := HW2.out; omega))⟩
 clear hFe hF3 hb3
 go_wp2_with (fail)
 exact bodyPost_ret (v := .tuple #[.slice pl l.length cl, .agg #[.int .i64 c, .int .i64 a]]) (by simp [results, Tryz.results14, go_sem, HG.out.1, HG.out.2.1]) rfl ⟨_, rfl, HG.out.2.2.2, HG.out.2.2.1⟩
end
section
open Go.RowKit
def eqF {α β : Type} (f : α → β → Bool) : List α → List β → Bool
 | [], [] => true
 | x :: l, y :: m => f x y && eqF f l m
 | _, _ => false
theorem eqF_len {α β : Type} {f : α → β → Bool} : ∀ {l : List α} {m : List β}, l.length ≠ m.length → eqF f l m = false
 | [], [], h => absurd rfl h
 | x :: l, y :: m, h => by
   have := eqF_len (f := f) (l := l) (m := m) (fun e => h (by simp [e]))
   simp [eqF, this]
 | [], y :: m, _ => rfl
 | x :: l, [], _ => rfl
theorem eqF_at {α β : Type} {f : α → β → Bool} : ∀ {l : List α} {m : List β} (k : Nat) (h1 : k < l.length) (h2 : k < m.length), f l[k] m[k] = false → eqF f l m = false
 | x :: l, y :: m, 0, _, _, h => by
   have h' : f x y = false := h
   simp [eqF, h']
 | x :: l, y :: m, k + 1, h1, h2, h => by
   have := eqF_at (l := l) (m := m) k (by simpa using h1) (by simpa using h2) (by simpa using h)
   simp [eqF, this]
theorem eqF_all {α β : Type} {f : α → β → Bool} : ∀ {l : List α} {m : List β}, l.length = m.length → (∀ k (h1 : k < l.length) (h2 : k < m.length), f l[k] m[k] = true) → eqF f l m = true
 | [], [], _, _ => rfl
 | x :: l, y :: m, h, ha => by
   have h0 : f x y = true := ha 0 (by simp) (by simp)
   have := eqF_all (f := f) (l := l) (m := m) (by simpa using h) (fun k h1 h2 => ha (k + 1) (by simpa using h1) (by simpa using h2))
   simp [eqF, h0, this]
def samePol (p q : Pol) : Bool := (p.1 == q.1) && (p.2 == q.2)
def sameLab (l m : Lab) : Bool := eqF samePol l m
mutual
def sameE : Ex → Ex → Bool
 | .mk k _ n t s l a, y => (k == y.kind) && (n == y.num) && (t == y.ty) && (s == y.name) && sameLab l y.lab && sameL a y.kids
def sameL : List Ex → List Ex → Bool
 | [], m => m.isEmpty
 | x :: r, m => match m with
   | [] => false
   | y :: m' => sameE x y && sameL r m'
end
theorem sameL_eqF : ∀ (l m : List Ex), sameL l m = eqF sameE l m
 | [], [] => by simp [sameL, eqF]
 | [], y :: m => by simp [sameL, eqF]
 | x :: l, [] => by simp [sameL, eqF]
 | x :: l, y :: m => by simp [sameL, eqF, sameL_eqF l m]
end
section
open Go.RowKit
theorem text_ne {x y : Txt} (h : ¬ x = y) : (x.toList == y.toList) = false := by
 cases e : (x.toList == y.toList) with
 | false => rfl
 | true => exact absurd (bytes_eq.1 e) h
theorem equalS_calls (l m : List Txt) (v u : Value) (w : World) (hv : Strs w l v) (hu : Strs w m u) :
 Calls Tryz.prog 52 #[v, u] w fun e w' => e = .returned (.bool (l == m)) ∧ ∃ n, w' = w.drewN n := by
 obtain ⟨b, o, c, p, rfl, hlc, hc, hp, hcells⟩ := One.cells hv
 obtain ⟨b2, o2, c2, p2, rfl, hlc2, hc2, hp2, hcells2⟩ := One.cells hu
 clear hv hu
 by_cases hn : l.length = m.length
 · have HN := Hd hn
   have hn1 : ((l.length : Int) != (m.length : Int)) = false := by simp [hn]
   have hn2 : ((l.length : Int) == (m.length : Int)) = true := by simp [hn]
   clear hn
   go_enter Tryz.func52, Tryz.ntmps52
   go_wp2
   go_loopw [5, 13] (fun _ i wr => ∃ k : Nat, k ≤ l.length ∧ i = .int .i64 k ∧ (∃ n, wr = w.drewN n) ∧ Hid (∀ j (h1 : j < l.length) (h2 : j < m.length), j < k → (l[j] == m[j]) = true)) (fun _ i _ => l.length - (intOf i).toNat)
   case atStart => exact ⟨0, Nat.zero_le _, rfl, ⟨0, rfl⟩, fun j _ _ hj => absurd hj (Nat.not_lt_zero _)⟩
   case round =>
    obtain ⟨k, hk, rfl, ⟨n, rfl⟩, HE⟩ := hrel
    by_cases hlt : k < l.length
    · have hlt2 : k < m.length := by have := HN.out; omega
      have hcell := hcells k hlt
      have hcell2 := hcells2 k hlt2
      obtain rfl := hp (by omega)
      obtain rfl := hp2 (by omega)
      clear hp hp2 hcells hcells2
      cases he : l[k] == m[k] with
      | true =>
        have HX : Hid ((l[k] == m[k]) = true) := he
        have he' : (l[k].toList == m[k].toList) = true := bytes_eq.2 (by simpa using he)
        clear he
        go_wp2
        go_quiet (fail)
        go_wp2
        go_roundw
        case rel =>
         refine ⟨k + 1, by omega, by go_num, ⟨n + nq, rfl⟩, fun j h1 h2 hj => ?_⟩
         by_cases e : j = k
         · subst e; exact HX.out
         · exact HE.out j h1 h2 (by omega)
        case measure => simp [intOf]; omega
      | false =>
        have HX : Hid ((l == m) = false) := eq_at hlt hlt2 he
        have he' : (l[k].toList == m[k].toList) = false := text_ne (by simpa using he)
        clear he
        go_wp2
        go_quiet (fail)
        go_wp2
        go_ret
        exact ⟨ret_bool HX.out.symm, ⟨n + nq, by first | rw [World.drewN_drewN] | rfl⟩⟩
    · have HX : Hid ((l == m) = true) := eq_all HN.out fun j h1 h2 => HE.out j h1 h2 (by omega)
      go_wp2
      go_ret
      exact ⟨ret_bool HX.out.symm, ⟨n, rfl⟩⟩
 · have HX : Hid ((l == m) = false) := eq_len hn
   have hn1 : ((l.length : Int) != (m.length : Int)) = true := by simp; omega
   have hn2 : ((l.length : Int) == (m.length : Int)) = false := by simp; omega
   clear hn
   go_enter Tryz.func52, Tryz.ntmps52
   go_wp2
   go_ret
   exact ⟨ret_bool HX.out.symm, ⟨0, rfl⟩⟩
end
section
open Go.RowKit Go.Maps
theorem Lbl.at {W : World} {l : Lab} {v : Value} (h : Lbl W l v) : ∃ (b o c : Nat) (p : Option Addr), v = .slice p l.length c ∧ l.length ≤ 9223372036854775807 ∧ (0 < l.length → p = some ⟨b, o, none⟩) ∧
 ∀ (i : Nat) (hi : i < l.length), ∃ pr cr, Strs W l[i].2 (.slice pr l[i].2.length cr) ∧ W.cell? ⟨b, o + i * 2, none⟩ = some (.string l[i].1) ∧ W.cell? ⟨b, o + i * 2 + 1, none⟩ = some (.slice pr l[i].2.length cr) := by
 obtain ⟨b, o, c, p, e, h1, h2, h3, h4⟩ := h.cells
 refine ⟨b, o, c, p, e, by omega, h3, fun i hi => ?_⟩
 obtain ⟨u, g1, g2, g3⟩ := h4 i hi
 obtain ⟨pr, cr, rfl, g4⟩ := g3
 exact ⟨pr, cr, ⟨pr, cr, rfl, g4⟩, g1, g2⟩
def TellsEqPol (w : World) (l m : Lab) (fn : FuncId) (cap : Array Value) : Prop := ∀ (k : Nat) (h1 : k < l.length) (h2 : k < m.length) (W : World) (va vb : Value), Below w.heap.size w W → PolIs W l[k] va → PolIs W m[k] vb → Calls Tryz.prog fn (#[va, vb] ++ cap) W fun e w' => e = .returned (.bool (samePol l[k] m[k])) ∧ Below W.heap.size W w'
theorem equalPol_calls (l m : Lab) (v u : Value) (fn : FuncId) (cap : Array Value) (w : World) (hv : Lbl w l v) (hu : Lbl w m u) (eg : ∀ args w, (callFunc fn args).run Tryz.prog w = .ok (.enter fn args) w) (hq : TellsEqPol w l m fn cap) :
 Calls Tryz.prog 50 #[v, u, .func (.func fn) #[] cap] w fun e w' => e = .returned (.bool (eqF samePol l m)) ∧ Below w.heap.size w w' := by
 obtain ⟨b, o, c, p, rfl, hmax, hp, hl⟩ := hv.at
 obtain ⟨b', o', c', p', rfl, hmax', hp', hl'⟩ := hu.at
 have HL := Hd hl
 have HL' := Hd hl'
 have HP := Hd hp
 have HP' := Hd hp'
 have HQ := Hd hq
 clear hl hl' hp hp' hq hv hu
 by_cases hlen : l.length = m.length
 · have hle : (l.length : Int) = (m.length : Int) := by omega
   have hle2 : ((l.length : Int) != (m.length : Int)) = false := by simp [hle]
   have hle3 : ((l.length : Int) == (m.length : Int)) = true := by simp [hle]
   clear hle
   have HLEN := Hd hlen
   clear hlen
   go_enter Tryz.func50, Tryz.ntmps50
   go_wp2_with (fail)
   go_loopw [7, 8, 9, 17] (fun _ _ _ i ws => ∃ (k : Nat) (wo : World), k ≤ l.length ∧ i = .int .i64 k ∧ wo = ws ∧ Hid (Below w.heap.size w wo) ∧ Hid (∀ j (h1 : j < l.length) (h2 : j < m.length), j < k → samePol l[j] m[j] = true)) (fun _ _ _ i _ => l.length - (intOf i).toNat)
   case atStart => exact ⟨0, _, Nat.zero_le _, rfl, rfl, Below.refl _ _, fun j _ _ h => absurd h (by omega)⟩
   case round =>
    obtain ⟨k, wo, hk, rfl, rfl, HB, HA⟩ := hrel
    by_cases hlt : k < l.length
    · have hlt2 : k < m.length := by have := HLEN.out; omega
      obtain ⟨pr, cr, s1, z0, z1⟩ := HL.out k hlt
      obtain ⟨prb, crb, s1b, z0b, z1b⟩ := HL'.out k hlt2
      have hbk := keeps_of_below HB.out
      have q0 := hbk.2 _ _ _ z0
      have r0 := hbk.2 _ _ _ z0b
      have q1 := hbk.2 _ _ _ z1
      have r1 := hbk.2 _ _ _ z1b
      obtain rfl := HP.out (by omega)
      obtain rfl := HP'.out (by omega)
      have hki : (k : Int) < (l.length : Int) := by omega
      have hki2 : (k : Int) < (m.length : Int) := by omega
      have hk0 : (0 : Int) ≤ (k : Int) := by omega
      have hkm : (k : Int) + 1 ≤ 9223372036854775807 := by omega
      have HAT : Hid (samePol l[k] m[k] = false → eqF samePol l m = false) := fun h => eqF_at k hlt hlt2 h
      have HAN : Hid (samePol l[k] m[k] = true → ∀ j (h1 : j < l.length) (h2 : j < m.length), j < k + 1 → samePol l[j] m[j] = true) := fun h j h1 h2 h3 => by
       rcases Nat.lt_or_ge j k with h4 | h4
       · exact HA.out j h1 h2 h4
       · obtain rfl : j = k := by omega
         exact h
      have HQK : Hid (∀ (W : World) (va vb : Value), Below w.heap.size w W → PolIs W l[k] va → PolIs W m[k] vb → Calls Tryz.prog fn (#[va, vb] ++ cap) W fun e w' => e = .returned (.bool (samePol l[k] m[k])) ∧ Below W.heap.size W w') := HQ.out k hlt hlt2
      have HLT := Hd hlt
      generalize l[k] = x at *
      generalize m[k] = y at *
      obtain ⟨Wa, eWa⟩ : ∃ Wa, wo.alloc (.cells #[.string x.1, .slice pr x.2.length cr] 77) = Wa := ⟨_, rfl⟩
      have hba : Below wo.heap.size wo Wa := by rw [← eWa]; exact (Below.refl _ _).alloc (Nat.le_refl _) _
      have hXa : Blk Wa wo.heap.size [.string x.1, .slice pr x.2.length cr] 77 := by rw [← eWa]; exact Blk.new _ _ _
      obtain ⟨W2, eW⟩ : ∃ W2, Wa.alloc (.cells #[.string y.1, .slice prb y.2.length crb] 77) = W2 := ⟨_, rfl⟩
      have hbb : Below Wa.heap.size Wa W2 := by rw [← eW]; exact (Below.refl _ _).alloc (Nat.le_refl _) _
      have hb2 : Below wo.heap.size wo W2 := hba.trans (hbb.mono hba.size)
      have hX := hXa.below hbb
      have hY : Blk W2 Wa.heap.size [.string y.1, .slice prb y.2.length crb] 77 := by rw [← eW]; exact Blk.new _ _ _
      have hka := keeps_of_below hba
      replace r0 := hka.2 _ _ _ r0
      replace r1 := hka.2 _ _ _ r1
      have d0 := hX.cell 0
      have f0 := hY.cell 0
      have d1 := hX.cell 1
      have f1 := hY.cell 1
      simp only [List.getElem?_cons_zero, List.getElem?_cons_succ] at d0 f0 d1 f1
      have hk2 := hbk.trans (keeps_of_below hb2)
      have HBW := Hd (HB.out.trans (hb2.mono HB.out.size))
      have HC := Hd (HQK.out W2 (.agg #[.string x.1, .slice pr x.2.length cr]) (.agg #[.string y.1, .slice prb y.2.length crb]) HBW.out ⟨_, rfl, s1.stays hk2⟩ ⟨_, rfl, s1b.stays hk2⟩)
      clear z0 z0b z1 z1b s1 s1b hbk hk2 hb2 hX hY hba hbb hXa hka hlt hlt2 hk HQK
      cases hs : samePol x y with
      | true =>
        have HN := Hd (HAN.out hs)
        rw [hs] at HC
        clear hs HAT HAN
        go_wp2_with (fail)
        refine HC.out.mono ?_
        rintro e w3 ⟨rfl, hb3⟩
        have HB3 := Hd (HBW.out.trans (hb3.mono HBW.out.size))
        clear hb3
        go_wp2_with (fail)
        go_roundw
        case rel => exact ⟨k + 1, _, by have h1 := HLT.out; omega, by go_num, rfl, HB3.out, HN.out⟩
        case measure => have h1 := HLT.out; simp [intOf]; omega
      | false =>
        have HN := Hd (HAT.out hs)
        rw [hs] at HC
        clear hs HAT HAN
        go_wp2_with (fail)
        refine HC.out.mono ?_
        rintro e w3 ⟨rfl, hb3⟩
        have HB3 := Hd (HBW.out.trans (hb3.mono HBW.out.size))
        clear hb3
        go_wp2_with (fail)
        go_ret
        exact ⟨by rw [HN.out]; rfl, HB3.out⟩
    · have hki : ¬ (k : Int) < (l.length : Int) := by omega
      have HN : Hid (eqF samePol l m = true) := eqF_all HLEN.out fun j h1 h2 => HA.out j h1 h2 (by omega)
      go_wp2_with (fail)
      go_ret
      exact ⟨by rw [HN.out]; rfl, HB.out⟩
 · have hle : ¬ (l.length : Int) = (m.length : Int) := by omega
   have hle2 : ((l.length : Int) != (m.length : Int)) = true := by simp [hle]
   have hle3 : ((l.length : Int) == (m.length : Int)) = false := by simp [hle]
   have HN : Hid (eqF samePol l m = false) := eqF_len hlen
   clear hlen
   go_enter Tryz.func50, Tryz.ntmps50
   go_wp2_with (fail)
   go_ret
   exact ⟨by rw [HN.out]; rfl, Below.refl _ _⟩
def TellsEqEx (w : World) (l m : List Ex) (fn : FuncId) (cap : Array Value) : Prop := ∀ (k : Nat) (h1 : k < l.length) (h2 : k < m.length) (W : World) (va vb : Value), Below w.heap.size w W → ExIs W l[k] va → ExIs W m[k] vb → Calls Tryz.prog fn (#[va, vb] ++ cap) W fun e w' => e = .returned (.bool (sameE l[k] m[k])) ∧ Below W.heap.size W w'
theorem equalEx_calls (l m : List Ex) (v u : Value) (fn : FuncId) (cap : Array Value) (w : World) (hv : Exs w l v) (hu : Exs w m u) (eg : ∀ args w, (callFunc fn args).run Tryz.prog w = .ok (.enter fn args) w) (hq : TellsEqEx w l m fn cap) :
 Calls Tryz.prog 57 #[v, u, .func (.func fn) #[] cap] w fun e w' => e = .returned (.bool (eqF sameE l m)) ∧ Below w.heap.size w w' := by
 obtain ⟨b, o, c, p, rfl, hmax, hp, hl⟩ := hv.at
 obtain ⟨b', o', c', p', rfl, hmax', hp', hl'⟩ := hu.at
 have HL := Hd hl
 have HL' := Hd hl'
 have HP := Hd hp
 have HP' := Hd hp'
 have HQ := Hd hq
 clear hl hl' hp hp' hq hv hu
 by_cases hlen : l.length = m.length
 · have hle : (l.length : Int) = (m.length : Int) := by omega
   have hle2 : ((l.length : Int) != (m.length : Int)) = false := by simp [hle]
   have hle3 : ((l.length : Int) == (m.length : Int)) = true := by simp [hle]
   clear hle
   have HLEN := Hd hlen
   clear hlen
   go_enter Tryz.func57, Tryz.ntmps57
   go_wp2_with (fail)
   go_loopw [7, 8, 9, 17] (fun _ _ _ i ws => ∃ (k : Nat) (wo : World), k ≤ l.length ∧ i = .int .i64 k ∧ wo = ws ∧ Hid (Below w.heap.size w wo) ∧ Hid (∀ j (h1 : j < l.length) (h2 : j < m.length), j < k → sameE l[j] m[j] = true)) (fun _ _ _ i _ => l.length - (intOf i).toNat)
   case atStart => exact ⟨0, _, Nat.zero_le _, rfl, rfl, Below.refl _ _, fun j _ _ h => absurd h (by omega)⟩
   case round =>
    obtain ⟨k, wo, hk, rfl, rfl, HB, HA⟩ := hrel
    by_cases hlt : k < l.length
    · have hlt2 : k < m.length := by have := HLEN.out; omega
      obtain ⟨pl, cl, pa, ca, s1, s2, z0, z1, z2, z3, z4, z5, z6⟩ := HL.out k hlt
      obtain ⟨plb, clb, pab, cab, s1b, s2b, z0b, z1b, z2b, z3b, z4b, z5b, z6b⟩ := HL'.out k hlt2
      have hbk := keeps_of_below HB.out
      have q0 := hbk.2 _ _ _ z0
      have r0 := hbk.2 _ _ _ z0b
      have q1 := hbk.2 _ _ _ z1
      have r1 := hbk.2 _ _ _ z1b
      have q2 := hbk.2 _ _ _ z2
      have r2 := hbk.2 _ _ _ z2b
      have q3 := hbk.2 _ _ _ z3
      have r3 := hbk.2 _ _ _ z3b
      have q4 := hbk.2 _ _ _ z4
      have r4 := hbk.2 _ _ _ z4b
      have q5 := hbk.2 _ _ _ z5
      have r5 := hbk.2 _ _ _ z5b
      have q6 := hbk.2 _ _ _ z6
      have r6 := hbk.2 _ _ _ z6b
      obtain rfl := HP.out (by omega)
      obtain rfl := HP'.out (by omega)
      have hki : (k : Int) < (l.length : Int) := by omega
      have hki2 : (k : Int) < (m.length : Int) := by omega
      have hk0 : (0 : Int) ≤ (k : Int) := by omega
      have hkm : (k : Int) + 1 ≤ 9223372036854775807 := by omega
      have HAT : Hid (sameE l[k] m[k] = false → eqF sameE l m = false) := fun h => eqF_at k hlt hlt2 h
      have HAN : Hid (sameE l[k] m[k] = true → ∀ j (h1 : j < l.length) (h2 : j < m.length), j < k + 1 → sameE l[j] m[j] = true) := fun h j h1 h2 h3 => by
       rcases Nat.lt_or_ge j k with h4 | h4
       · exact HA.out j h1 h2 h4
       · obtain rfl : j = k := by omega
         exact h
      have HQK : Hid (∀ (W : World) (va vb : Value), Below w.heap.size w W → ExIs W l[k] va → ExIs W m[k] vb → Calls Tryz.prog fn (#[va, vb] ++ cap) W fun e w' => e = .returned (.bool (sameE l[k] m[k])) ∧ Below W.heap.size W w') := HQ.out k hlt hlt2
      have HLT := Hd hlt
      generalize l[k] = x at *
      generalize m[k] = y at *
      obtain ⟨Wa, eWa⟩ : ∃ Wa, wo.alloc (.cells #[.int .i64 x.kind, .int .i64 x.at_, .int .i64 x.num, .int .i64 x.ty, .string x.name, .slice pl x.lab.length cl, .slice pa x.kids.length ca] 26) = Wa := ⟨_, rfl⟩
      have hba : Below wo.heap.size wo Wa := by rw [← eWa]; exact (Below.refl _ _).alloc (Nat.le_refl _) _
      have hXa : Blk Wa wo.heap.size [.int .i64 x.kind, .int .i64 x.at_, .int .i64 x.num, .int .i64 x.ty, .string x.name, .slice pl x.lab.length cl, .slice pa x.kids.length ca] 26 := by rw [← eWa]; exact Blk.new _ _ _
      obtain ⟨W2, eW⟩ : ∃ W2, Wa.alloc (.cells #[.int .i64 y.kind, .int .i64 y.at_, .int .i64 y.num, .int .i64 y.ty, .string y.name, .slice plb y.lab.length clb, .slice pab y.kids.length cab] 26) = W2 := ⟨_, rfl⟩
      have hbb : Below Wa.heap.size Wa W2 := by rw [← eW]; exact (Below.refl _ _).alloc (Nat.le_refl _) _
      have hb2 : Below wo.heap.size wo W2 := hba.trans (hbb.mono hba.size)
      have hX := hXa.below hbb
      have hY : Blk W2 Wa.heap.size [.int .i64 y.kind, .int .i64 y.at_, .int .i64 y.num, .int .i64 y.ty, .string y.name, .slice plb y.lab.length clb, .slice pab y.kids.length cab] 26 := by rw [← eW]; exact Blk.new _ _ _
      have hka := keeps_of_below hba
      replace r0 := hka.2 _ _ _ r0
      replace r1 := hka.2 _ _ _ r1
      replace r2 := hka.2 _ _ _ r2
      replace r3 := hka.2 _ _ _ r3
      replace r4 := hka.2 _ _ _ r4
      replace r5 := hka.2 _ _ _ r5
      replace r6 := hka.2 _ _ _ r6
      have d0 := hX.cell 0
      have f0 := hY.cell 0
      have d1 := hX.cell 1
      have f1 := hY.cell 1
      have d2 := hX.cell 2
      have f2 := hY.cell 2
      have d3 := hX.cell 3
      have f3 := hY.cell 3
      have d4 := hX.cell 4
      have f4 := hY.cell 4
      have d5 := hX.cell 5
      have f5 := hY.cell 5
      have d6 := hX.cell 6
      have f6 := hY.cell 6
      simp only [List.getElem?_cons_zero, List.getElem?_cons_succ] at d0 f0 d1 f1 d2 f2 d3 f3 d4 f4 d5 f5 d6 f6
      have hk2 := hbk.trans (keeps_of_below hb2)
      have HBW := Hd (HB.out.trans (hb2.mono HB.out.size))
      have HC := Hd (HQK.out W2 (.agg #[.int .i64 x.kind, .int .i64 x.at_, .int .i64 x.num, .int .i64 x.ty, .string x.name, .slice pl x.lab.length cl, .slice pa x.kids.length ca]) (.agg #[.int .i64 y.kind, .int .i64 y.at_, .int .i64 y.num, .int .i64 y.ty, .string y.name, .slice plb y.lab.length clb, .slice pab y.kids.length cab]) HBW.out ⟨_, _, rfl, s1.stays hk2, s2.stays hk2⟩ ⟨_, _, rfl, s1b.stays hk2, s2b.stays hk2⟩)
      clear z0 z0b z1 z1b z2 z2b z3 z3b z4 z4b z5 z5b z6 z6b s1 s2 s1b s2b hbk hk2 hb2 hX hY hba hbb hXa hka hlt hlt2 hk HQK
      cases hs : sameE x y with
      | true =>
        have HN := Hd (HAN.out hs)
        rw [hs] at HC
        clear hs HAT HAN
        go_wp2_with (fail)
        refine HC.out.mono ?_
        rintro e w3 ⟨rfl, hb3⟩
        have HB3 := Hd (HBW.out.trans (hb3.mono HBW.out.size))
        clear hb3
        go_wp2_with (fail)
        go_roundw
        case rel => exact ⟨k + 1, _, by have h1 := HLT.out; omega, by go_num, rfl, HB3.out, HN.out⟩
        case measure => have h1 := HLT.out; simp [intOf]; omega
      | false =>
        have HN := Hd (HAT.out hs)
        rw [hs] at HC
        clear hs HAT HAN
        go_wp2_with (fail)
        refine HC.out.mono ?_
        rintro e w3 ⟨rfl, hb3⟩
        have HB3 := Hd (HBW.out.trans (hb3.mono HBW.out.size))
        clear hb3
        go_wp2_with (fail)
        go_ret
        exact ⟨by rw [HN.out]; rfl, HB3.out⟩
    · have hki : ¬ (k : Int) < (l.length : Int) := by omega
      have HN : Hid (eqF sameE l m = true) := eqF_all HLEN.out fun j h1 h2 => HA.out j h1 h2 (by omega)
      go_wp2_with (fail)
      go_ret
      exact ⟨by rw [HN.out]; rfl, HB.out⟩
 · have hle : ¬ (l.length : Int) = (m.length : Int) := by omega
   have hle2 : ((l.length : Int) != (m.length : Int)) = true := by simp [hle]
   have hle3 : ((l.length : Int) == (m.length : Int)) = false := by simp [hle]
   have HN : Hid (eqF sameE l m = false) := eqF_len hlen
   clear hlen
   go_enter Tryz.func57, Tryz.ntmps57
   go_wp2_with (fail)
   go_ret
   exact ⟨by rw [HN.out]; rfl, Below.refl _ _⟩
end
section
open Go.RowKit Go.Maps
end
section
open Go.RowKit Go.Maps
mutual
def deepE : Ex → Nat
 | .mk _ _ _ _ _ _ a => deepL a + 1
def deepL : List Ex → Nat
 | [] => 0
 | x :: r => max (deepE x) (deepL r)
end
theorem deepE_eq (x : Ex) : deepE x = deepL x.kids + 1 := by
 cases x
 rw [deepE]
 rfl
theorem deepL_at : ∀ {l : List Ex} {k : Nat} (h : k < l.length), deepE l[k] ≤ deepL l
 | x :: r, 0, _ => by rw [deepL]; exact Nat.le_max_left _ _
 | x :: r, k + 1, h => by
   rw [deepL]
   exact Nat.le_trans (deepL_at (l := r) (k := k) (by simpa using h)) (Nat.le_max_right _ _)
theorem sameE_eq (x y : Ex) : sameE x y = ((x.kind == y.kind) && (x.num == y.num) && (x.ty == y.ty) && (x.name == y.name) && sameLab x.lab y.lab && sameL x.kids y.kids) := by
 cases x
 rw [sameE]
 rfl
end
section
open Go.RowKit Go.Maps
mutual
def nodesE : Ex → Nat
 | .mk _ _ _ _ _ _ a => nodesL a + 1
def nodesL : List Ex → Nat
 | [] => 0
 | x :: r => nodesE x + nodesL r
end
theorem nodesE_eq (x : Ex) : nodesE x = nodesL x.kids + 1 := by
 cases x
 rw [nodesE]
 rfl
theorem nodesL_at : ∀ {l : List Ex} {k : Nat} (h : k < l.length), nodesE l[k] ≤ nodesL l
 | x :: r, 0, _ => by rw [nodesL]; exact Nat.le_add_right _ _
 | x :: r, k + 1, h => by
   rw [nodesL]
   exact Nat.le_trans (nodesL_at (l := r) (k := k) (by simpa using h)) (Nat.le_add_left _ _)
theorem nodesL_snoc : ∀ (l : List Ex) (y : Ex), nodesL (l ++ [y]) = nodesL l + nodesE y
 | [], y => by simp [nodesL]
 | x :: r, y => by
   have := nodesL_snoc r y
   simp only [List.cons_append, nodesL, this]
   omega
theorem deepL_snoc : ∀ (l : List Ex) (y : Ex), deepL (l ++ [y]) = max (deepL l) (deepE y)
 | [], y => by simp [deepL]
 | x :: r, y => by
   have := deepL_snoc r y
   simp only [List.cons_append, deepL, this]
   omega
theorem deepL_take {l : List Ex} {k : Nat} (h : k < l.length) : deepL (l.take (k + 1)) = max (deepL (l.take k)) (deepE l[k]) := by
 rw [List.take_succ_eq_append_getElem h, deepL_snoc]
theorem nodesL_le_take : ∀ (l : List Ex) (k : Nat), nodesL (l.take k) ≤ nodesL l
 | [], k => by simp [nodesL]
 | x :: r, 0 => by simp [nodesL]
 | x :: r, k + 1 => by
   have := nodesL_le_take r k
   simp only [List.take_succ_cons, nodesL]
   omega
mutual
theorem deep_le_nodes : ∀ x : Ex, deepE x ≤ nodesE x
 | .mk _ _ _ _ _ _ a => by
   rw [deepE, nodesE]
   have := deepL_le_nodes a
   omega
theorem deepL_le_nodes : ∀ l : List Ex, deepL l ≤ nodesL l
 | [] => by simp [deepL]
 | x :: r => by
   rw [deepL, nodesL]
   have h1 := deep_le_nodes x
   have h2 := deepL_le_nodes r
   omega
end
theorem refDeep_step (x : Ex) (va : Value) (w : World) (hx : ExIs w x va) (hn : nodesE x ≤ 1048576)
 (ih : ∀ (k : Nat) (h : k < x.kids.length) (W : World) (v : Value), ExIs W x.kids[k] v → Calls Tryz.prog 27 #[v] W fun e w' => e = .returned (.int .i64 (deepE x.kids[k] : Nat)) ∧ Below W.heap.size W w') :
 Calls Tryz.prog 27 #[va] w fun e w' => e = .returned (.int .i64 (deepE x : Nat)) ∧ Below w.heap.size w w' := by
 obtain ⟨vl, wa, rfl, hl, ha⟩ := hx
 obtain ⟨pl, cl, rfl, h1⟩ := hl
 obtain ⟨b, o, c, p, rfl, hmax, hp, hkids⟩ := ha.at
 obtain ⟨W1, eW⟩ : ∃ W1, w.alloc (.cells #[.int .i64 x.kind, .int .i64 x.at_, .int .i64 x.num, .int .i64 x.ty, .string x.name, .slice pl x.lab.length cl, .slice p x.kids.length c] 26) = W1 := ⟨_, rfl⟩
 have hb1 : Below w.heap.size w W1 := by rw [← eW]; exact (Below.refl _ _).alloc (Nat.le_refl _) _
 have hB1 : Blk W1 w.heap.size (exC x (.slice pl x.lab.length cl) (.slice p x.kids.length c)) 26 := by rw [← eW]; exact Blk.new _ _ _
 obtain ⟨q0, q1, q2, q3, q4, q5, q6⟩ := hB1.cells7
 have HB1 := Hd hb1
 have hn1 : nodesL x.kids ≤ 1048575 := by rw [nodesE_eq] at hn; omega
 have HN := Hd hn1
 have HE : Hid (deepE x = deepL x.kids + 1) := deepE_eq x
 have HKD : Hid (∀ W, Below W1.heap.size W1 W → ∀ (i : Nat) (hi : i < x.kids.length), ∃ pl cl pa ca, ExIs W x.kids[i] (.agg #[.int .i64 x.kids[i].kind, .int .i64 x.kids[i].at_, .int .i64 x.kids[i].num, .int .i64 x.kids[i].ty, .string x.kids[i].name, .slice pl x.kids[i].lab.length cl, .slice pa x.kids[i].kids.length ca]) ∧
  W.cell? ⟨b, o + i * 7, none⟩ = some (.int .i64 x.kids[i].kind) ∧ W.cell? ⟨b, o + i * 7 + 1, none⟩ = some (.int .i64 x.kids[i].at_) ∧ W.cell? ⟨b, o + i * 7 + 2, none⟩ = some (.int .i64 x.kids[i].num) ∧ W.cell? ⟨b, o + i * 7 + 3, none⟩ = some (.int .i64 x.kids[i].ty) ∧
  W.cell? ⟨b, o + i * 7 + 4, none⟩ = some (.string x.kids[i].name) ∧ W.cell? ⟨b, o + i * 7 + 5, none⟩ = some (.slice pl x.kids[i].lab.length cl) ∧ W.cell? ⟨b, o + i * 7 + 6, none⟩ = some (.slice pa x.kids[i].kids.length ca)) := fun W h i hi => by
  have hk := (keeps_of_below hb1).trans (keeps_of_below h)
  obtain ⟨pl, cl, pa, ca, g1, g2, g3, g4, g5, g6, g7, g8, g9⟩ := hkids i hi
  exact ⟨pl, cl, pa, ca, ⟨_, _, rfl, g1.stays hk, g2.stays hk⟩, hk.2 _ _ _ g3, hk.2 _ _ _ g4, hk.2 _ _ _ g5, hk.2 _ _ _ g6, hk.2 _ _ _ g7, hk.2 _ _ _ g8, hk.2 _ _ _ g9⟩
 have HIH := Hd ih
 have HP := Hd hp
 clear hb1 hB1 hkids hp ha ih hn hn1 h1
 generalize x.kids = l at *
 generalize deepE x = res at *
 go_enter Tryz.func27, Tryz.ntmps27
 go_wp2_with (fail)
 clear q0 q1 q2 q3 q4 q5 q6 eW
 go_loopw [3, 5, 9] (fun n _ i ws => ∃ (k : Nat) (wo : World), k ≤ l.length ∧ n = .int .i64 ((deepL (l.take k) : Nat) : Int) ∧ i = .int .i64 k ∧ wo = ws ∧ Hid (Below W1.heap.size W1 wo)) (fun _ _ i _ => l.length - (intOf i).toNat)
 case atStart => exact ⟨0, _, Nat.zero_le _, by simp [deepL], rfl, rfl, Below.refl _ _⟩
 case round =>
  obtain ⟨k, wo, hk, rfl, rfl, rfl, HB⟩ := hrel
  by_cases hlt : k < l.length
  · obtain ⟨pl', cl', pa', ca', hy, g0, g1, g2, g3, g4, g5, g6⟩ := HKD.out wo HB.out k hlt
    have hstep := deepL_take hlt
    have hlim : deepL (l.take (k + 1)) ≤ 1048575 := by
     have h1 := HN.out
     have h2 := nodesL_le_take l (k + 1)
     have h3 := deepL_le_nodes (l.take (k + 1)); omega
    obtain rfl := HP.out (by omega)
    have hki : (k : Int) < (l.length : Int) := by omega
    have hk0 : (0 : Int) ≤ (k : Int) := by omega
    have hkm : (k : Int) + 1 ≤ 9223372036854775807 := by omega
    have HC0 := Hd (HIH.out k hlt)
    generalize l[k] = y at *
    obtain ⟨W2, eW2⟩ : ∃ W2, wo.alloc (.cells #[.int .i64 y.kind, .int .i64 y.at_, .int .i64 y.num, .int .i64 y.ty, .string y.name, .slice pl' y.lab.length cl', .slice pa' y.kids.length ca'] 26) = W2 := ⟨_, rfl⟩
    have hb2 : Below wo.heap.size wo W2 := by rw [← eW2]; exact (Below.refl _ _).alloc (Nat.le_refl _) _
    have hB2 : Blk W2 wo.heap.size (exC y (.slice pl' y.lab.length cl') (.slice pa' y.kids.length ca')) 26 := by rw [← eW2]; exact Blk.new _ _ _
    have HC := Hd (HC0.out W2 _ (hy.stays (keeps_of_below hb2)))
    have HB2 := Hd (HB.out.trans (hb2.mono HB.out.size))
    obtain ⟨c0, c1, c2, c3, c4, c5, c6⟩ := hB2.cells7
    have HLT := Hd hlt
    have HST := Hd hstep
    have ho1 : deepL (l.take k) ≤ 1048575 := by rw [hstep] at hlim; omega
    have ho2 : deepE y ≤ 1048575 := by rw [hstep] at hlim; omega
    clear hb2 hB2 hy hk hlt hstep HC0
    have HLL := Hd hlim
    clear hlim
    generalize deepL (l.take k) = m at *
    generalize deepE y = q at *
    have hmq : ((m : Int) + (q : Int)) ≤ 9223372036854775807 := by omega
    go_wp2_with (fail)
    refine HC.out.mono ?_
    rintro e w3 ⟨rfl, hb3⟩
    have HB3 := Hd (HB2.out.trans (hb3.mono HB2.out.size))
    clear hb3
    go_wp2_with (fail)
    go_roundw
    case rel => exact ⟨k + 1, _, by have h1 := HLT.out; omega, by rw [HST.out]; (by_cases hh : m ≤ q <;> simp [hh, Nat.max_def] <;> omega), by go_num, rfl, HB3.out⟩
    case measure => have h1 := HLT.out; simp [intOf]; omega
  · have hke : k = l.length := by omega
    have hki : ¬ (k : Int) < (l.length : Int) := by omega
    have HT : Hid (deepL (l.take k) = deepL l) := by unfold Hid; rw [hke, List.take_length]
    have HLM : Hid (deepL l ≤ 1048575) := by
     unfold Hid
     have h1 := HN.out
     have h3 := deepL_le_nodes l; omega
    generalize deepL (l.take k) = m at *
    obtain rfl := HT.out
    have hm1 := HLM.out
    have hmm : ((deepL l : Nat) : Int) + 1 ≤ 9223372036854775807 := by omega
    clear hke
    generalize deepL l = m at *
    go_wp2_with (fail)
    go_ret
    exact ⟨by rw [HE.out]; simp, HB1.out.trans (HB.out.mono HB1.out.size)⟩
theorem refDeep_deep : ∀ (n : Nat) (x : Ex) (va : Value) (w : World), deepE x ≤ n → nodesE x ≤ 1048576 → ExIs w x va → Calls Tryz.prog 27 #[va] w fun e w' => e = .returned (.int .i64 (deepE x : Nat)) ∧ Below w.heap.size w w'
 | 0, x, va, w, hn, hs, hx => by rw [deepE_eq] at hn; omega
 | n + 1, x, va, w, hn, hs, hx => by
   refine refDeep_step x va w hx hs fun k h W v hv => ?_
   rw [deepE_eq] at hn
   rw [nodesE_eq] at hs
   have hd := deepL_at h
   have hd2 := nodesL_at h
   exact refDeep_deep n x.kids[k] v W (by omega) (by omega) hv
theorem refDeep_calls (x : Ex) (va : Value) (w : World) (hx : ExIs w x va) (hs : nodesE x ≤ 1048576) : Calls Tryz.prog 27 #[va] w fun e w' => e = .returned (.int .i64 (deepE x : Nat)) ∧ Below w.heap.size w w' := refDeep_deep _ x va w (Nat.le_refl _) hs hx
end
section
open Go.RowKit Go.WideShapes Go.ChangeShapes Go.ChangeAt
inductive OkEx : Ex → Prop
 | mk (kind at_ n ty : Int) (name : Txt) (l : Lab) (a : List Ex) (h0 : okNum kind) (h1 : okNum at_) (h2 : okNum n) (h3 : okNum ty) (h4 : okTxt name) (hr : ∀ y ∈ a, OkEx y) : OkEx (.mk kind at_ n ty name l a)
end
section
open Go.RowKit
def Fit (p : Nat → Rs Ex) : Prop := ∀ k x k', p k = .ok x k' → OkEx x ∧ k + nodesE x ≤ k'
section
variable {T : List Tok} {E : Int}
theorem okNum_lit {n : Int} (h0 : 0 ≤ n) (h1 : n ≤ 1000) : okNum n := by unfold okNum; omega
theorem okTxt_nil : okTxt ⟨#[]⟩ := by unfold okTxt; decide
theorem opLoop_fit (hA : ∀ k, okNum (tkNext T k).2.1) (hX : ∀ k, okTxt (tkNext T k).2.2) {one : Nat → Rs Ex} (h1 : Fit one) (level : Int) (f : Nat) : ∀ (x : Ex) (k k0 : Nat) (y : Ex) (k' : Nat), OkEx x → k0 + nodesE x ≤ k → opLoop T one level f x k = .ok y k' → OkEx y ∧ k0 + nodesE y ≤ k' := by
 induction f with
 | zero => intro x k k0 y k' hx hn h; cases h; exact ⟨hx, hn⟩
 | succ f ih =>
   intro x k k0 y k' hx hn h
   unfold opLoop at h
   split at h
   · cases h; exact ⟨hx, hn⟩
   · obtain ⟨z, k2, e1, e2⟩ := bind_ok h
     obtain ⟨hz, hz2⟩ := h1 _ _ _ e1
     refine ih _ _ k0 _ _ (.mk _ _ _ _ _ _ _ (okNum_lit (by omega) (by omega)) (hA k) (okNum_lit (by omega) (by omega)) (okNum_lit (by omega) (by omega)) (hX k) fun u hu => ?_) ?_ e2
     · simp at hu
       rcases hu with rfl | rfl
       · exact hx
       · exact hz
     · show k0 + (nodesE x + (nodesE z + 0) + 1) ≤ k2
       omega
theorem exprL_fit (hA : ∀ k, okNum (tkNext T k).2.1) (hX : ∀ k, okTxt (tkNext T k).2.2) {prim : Nat → Rs Ex} (h1 : Fit prim) (j : Nat) : Fit (exprL T prim j) := by
 induction j with
 | zero => exact h1
 | succ j ih =>
   intro k x k' h
   obtain ⟨y, k2, e1, e2⟩ := bind_ok h
   obtain ⟨h2, h3⟩ := ih _ _ _ e1
   exact opLoop_fit hA hX ih _ _ _ _ _ _ _ h2 h3 e2
theorem listGo_fit {one : Nat → Rs Ex} (h1 : Fit one) (most : Nat) (sign : Txt) (f : Nat) : ∀ (l : List Ex) (k k0 : Nat) (x : List Ex) (k' : Nat), (∀ y ∈ l, OkEx y) → k0 + nodesL l ≤ k → listGo T E one most sign f l k = .ok x k' → (∀ y ∈ x, OkEx y) ∧ k0 + nodesL x ≤ k' := by
 induction f with
 | zero => intro l k k0 x k' hl hn h; cases h; exact ⟨hl, hn⟩
 | succ f ih =>
   intro l k k0 x k' hl hn h
   unfold listGo at h
   split at h
   · split at h
     · cases h
     · obtain ⟨y, k2, e1, e2⟩ := bind_ok h
       obtain ⟨hy, hy2⟩ := h1 _ _ _ e1
       refine ih _ _ k0 _ _ (fun u hu => ?_) ?_ e2
       · rcases List.mem_append.1 hu with hu | hu
         · exact hl u hu
         · obtain rfl := List.mem_singleton.1 hu
           exact hy
       · rw [nodesL_snoc]; omega
   · cases h; exact ⟨hl, hn⟩
theorem argsP_fit (hA : ∀ k, okNum (tkNext T k).2.1) (hX : ∀ k, okTxt (tkNext T k).2.2) {prim : Nat → Rs Ex} (h1 : Fit prim) {k k' : Nat} {l : List Ex} (h : argsP T E prim k = .ok l k') : (∀ y ∈ l, OkEx y) ∧ k + nodesL l ≤ k' := by
 obtain ⟨u, k1, e1, h⟩ := bind_ok h
 have := (mustP_ok e1).2
 split at h
 · cases h
   refine ⟨fun y hy => (by cases hy), ?_⟩
   show k + 0 ≤ _
   omega
 · obtain ⟨x, k2, e2, h⟩ := bind_ok h
   obtain ⟨u3, k3, e3, h⟩ := bind_ok h
   obtain ⟨y, k4, e4, e5⟩ := bind_ok e2
   obtain ⟨hy, hy2⟩ := exprL_fit hA hX h1 5 _ _ _ e4
   have h6 := listGo_fit (exprL_fit hA hX h1 5) _ _ _ [y] _ k1 _ _ (fun u hu => by obtain rfl := List.mem_singleton.1 hu; exact hy) (by show k1 + (nodesE y + 0) ≤ _; omega) e5
   have := (mustP_ok e3).2
   cases h
   exact ⟨h6.1, by omega⟩
theorem primP_fit (hA : ∀ k, okNum (tkNext T k).2.1) (hX : ∀ k, okTxt (tkNext T k).2.2) (hN : ∀ k, (tkNext T k).1 = 2 → okNum (numT (tkNext T k).2.2)) (d : Nat) : Fit (primP T E d) := by
 have z0 : okNum 0 := okNum_lit (by omega) (by omega)
 have z1 : okNum 1 := okNum_lit (by omega) (by omega)
 have z2 : okNum 2 := okNum_lit (by omega) (by omega)
 have z3 : okNum 3 := okNum_lit (by omega) (by omega)
 have z4 : okNum 4 := okNum_lit (by omega) (by omega)
 have z5 : okNum 5 := okNum_lit (by omega) (by omega)
 have no : ∀ y ∈ ([] : List Ex), OkEx y := fun y hy => by cases hy
 induction d with
 | zero => intro k x k' h; cases h
 | succ d ih =>
   intro k x k' h
   unfold primP at h
   split at h
   · rename_i h2
     cases h
     exact ⟨.mk _ _ _ _ _ _ _ z1 (hA k) (hN k h2) z1 okTxt_nil no, Nat.le_refl _⟩
   split at h
   · cases h; exact ⟨.mk _ _ _ _ _ _ _ z1 (hA k) z1 z2 okTxt_nil no, Nat.le_refl _⟩
   split at h
   · cases h; exact ⟨.mk _ _ _ _ _ _ _ z1 (hA k) z0 z2 okTxt_nil no, Nat.le_refl _⟩
   split at h
   · split at h
     · obtain ⟨l, k1, e1, h⟩ := bind_ok h
       have := argsP_fit hA hX ih e1
       cases h
       exact ⟨.mk _ _ _ _ _ _ _ z4 (hA k) z0 z0 (hX k) this.1, by show k + (nodesL _ + 1) ≤ _; omega⟩
     · cases h; exact ⟨.mk _ _ _ _ _ _ _ z2 (hA k) z0 z0 (hX k) no, Nat.le_refl _⟩
   split at h
   · obtain ⟨l, k1, e1, h⟩ := bind_ok h
     have := ih _ _ _ e1
     cases h
     exact ⟨.mk _ _ _ _ _ _ _ z3 (hA k) z0 z0 (hX k) fun u hu => by obtain rfl := List.mem_singleton.1 hu; exact this.1, by show k + (nodesE _ + 0 + 1) ≤ _; omega⟩
   split at h
   · obtain ⟨l, k1, e1, h⟩ := bind_ok h
     obtain ⟨u, k2, e2, h⟩ := bind_ok h
     have := exprL_fit hA hX ih 5 _ _ _ e1
     have := (mustP_ok e2).2
     cases h
     exact ⟨by simp_all, by omega⟩
   split at h
   · obtain ⟨u1, k1, e1, h⟩ := bind_ok h
     obtain ⟨x2, k2, e2, h⟩ := bind_ok h
     obtain ⟨u3, k3, e3, h⟩ := bind_ok h
     obtain ⟨l4, k4, e4, h⟩ := bind_ok h
     obtain ⟨u5, k5, e5, h⟩ := bind_ok h
     have := (mustP_ok e1).2
     have hq := exprL_fit hA hX ih 5 _ _ _ e2
     have := (mustP_ok e3).2
     have := labelP_mono _ _ _ e4
     have := (mustP_ok e5).2
     cases h
     exact ⟨.mk _ _ _ _ _ _ _ z5 (hA k) z0 z0 okTxt_nil fun u hu => by obtain rfl := List.mem_singleton.1 hu; exact hq.1, by show k + (nodesE _ + 0 + 1) ≤ _; omega⟩
   · cases h
end
def Within {α : Type} (T : List Tok) (p : Nat → Rs α) : Prop := ∀ k x k', p k = .ok x k' → k ≤ T.length → k' ≤ T.length
section
variable {T : List Tok} {E : Int}
theorem mustP_in {s : Txt} : Within T (mustP T E s) := fun k x k' h _ => by
 have h1 := mustP_ok h
 have := tkIs_lt h1.1
 omega
theorem nameP_in : Within T (nameP T E) := fun k x k' h _ => by
 have h1 := nameP_ok h
 have := kind_lt (T := T) (k := k) (by omega)
 omega
theorem listGo_in {α : Type} {one : Nat → Rs α} (h1 : Within T one) (most : Nat) (sign : Txt) (f : Nat) : ∀ (l : List α) (k : Nat) (x : List α) (k' : Nat), listGo T E one most sign f l k = .ok x k' → k ≤ T.length → k' ≤ T.length := by
 induction f with
 | zero => intro l k x k' h hk; cases h; exact hk
 | succ f ih =>
   intro l k x k' h hk
   unfold listGo at h
   split at h
   · rename_i hs
     split at h
     · cases h
     · obtain ⟨y, k2, e1, e2⟩ := bind_ok h
       have := tkIs_lt hs
       exact ih _ _ _ _ e2 (h1 _ _ _ e1 (by omega))
   · cases h; exact hk
theorem listP_in {α : Type} {one : Nat → Rs α} (h1 : Within T one) (most : Nat) (sign : Txt) : Within T (listP T E one most sign) := fun k x k' h hk => by
 obtain ⟨y, k2, e1, e2⟩ := bind_ok h
 exact listGo_in h1 _ _ _ _ _ _ _ e2 (h1 _ _ _ e1 hk)
theorem polP_in : Within T (polP T E) := fun k x k' h hk => by
 obtain ⟨o, k1, e1, h⟩ := bind_ok h
 obtain ⟨u, k2, e2, h⟩ := bind_ok h
 have h2 := mustP_in _ _ _ e2 (nameP_in _ _ _ e1 hk)
 split at h
 · obtain ⟨rs, k3, e3, h⟩ := bind_ok h
   have := listP_in nameP_in _ _ _ _ _ e3 h2
   cases h
   exact this
 · cases h
   exact h2
theorem labelP_in : Within T (labelP T E) := fun k x k' h hk => by
 obtain ⟨u, k1, e1, h⟩ := bind_ok h
 have h2 := mustP_in _ _ _ e1 hk
 split at h
 · rename_i hs
   have := tkIs_lt hs
   cases h
   omega
 · obtain ⟨l, k2, e2, h⟩ := bind_ok h
   obtain ⟨u3, k3, e3, h⟩ := bind_ok h
   have := mustP_in _ _ _ e3 (listP_in polP_in _ _ _ _ _ e2 h2)
   cases h
   exact this
theorem opLoop_in {one : Nat → Rs Ex} (h1 : Within T one) (level : Int) (f : Nat) : ∀ (x : Ex) (k : Nat) (y : Ex) (k' : Nat), opLoop T one level f x k = .ok y k' → k ≤ T.length → k' ≤ T.length := by
 induction f with
 | zero => intro x k y k' h hk; cases h; exact hk
 | succ f ih =>
   intro x k y k' h hk
   unfold opLoop at h
   split at h
   · cases h; exact hk
   · rename_i h4
     obtain ⟨z, k2, e1, e2⟩ := bind_ok h
     have : (tkNext T k).1 = 4 := Decidable.byContradiction fun e => h4 (.inl e)
     have := kind_lt (T := T) (k := k) (by omega)
     exact ih _ _ _ _ e2 (h1 _ _ _ e1 (by omega))
theorem exprL_in {prim : Nat → Rs Ex} (h1 : Within T prim) (j : Nat) : Within T (exprL T prim j) := by
 induction j with
 | zero => exact h1
 | succ j ih =>
   intro k x k' h hk
   obtain ⟨y, k2, e1, e2⟩ := bind_ok h
   exact opLoop_in ih _ _ _ _ _ _ e2 (ih _ _ _ e1 hk)
theorem argsP_in {prim : Nat → Rs Ex} (h1 : Within T prim) : Within T (argsP T E prim) := fun k x k' h hk => by
 obtain ⟨u, k1, e1, h⟩ := bind_ok h
 have h2 := mustP_in _ _ _ e1 hk
 split at h
 · rename_i hs
   have := tkIs_lt hs
   cases h
   omega
 · obtain ⟨l, k2, e2, h⟩ := bind_ok h
   obtain ⟨u3, k3, e3, h⟩ := bind_ok h
   have := mustP_in _ _ _ e3 (listP_in (exprL_in h1 5) _ _ _ _ _ e2 h2)
   cases h
   exact this
theorem primP_in (d : Nat) : Within T (primP T E d) := by
 induction d with
 | zero => intro k x k' h; cases h
 | succ d ih =>
   intro k x k' h hk
   unfold primP at h
   split at h
   · have := kind_lt (T := T) (k := k) (by omega)
     cases h; omega
   split at h
   · rename_i hs
     have := tkIs_lt hs
     cases h; omega
   split at h
   · rename_i hs
     have := tkIs_lt hs
     cases h; omega
   split at h
   · have := kind_lt (T := T) (k := k) (by omega)
     split at h
     · obtain ⟨l, k1, e1, h⟩ := bind_ok h
       have := argsP_in ih _ _ _ e1 (by omega)
       cases h
       exact this
     · cases h; omega
   split at h
   · rename_i hs
     have hlt : k < T.length := by
      rcases Bool.or_eq_true _ _ ▸ hs with hs | hs
      · exact tkIs_lt hs
      · exact tkIs_lt hs
     obtain ⟨l, k1, e1, h⟩ := bind_ok h
     have := ih _ _ _ e1 (by omega)
     cases h
     exact this
   split at h
   · rename_i hs
     have := tkIs_lt hs
     obtain ⟨l, k1, e1, h⟩ := bind_ok h
     obtain ⟨u, k2, e2, h⟩ := bind_ok h
     have := mustP_in _ _ _ e2 (exprL_in ih 5 _ _ _ e1 (by omega))
     cases h
     exact this
   split at h
   · rename_i hs
     have := tkIs_lt hs
     obtain ⟨u1, k1, e1, h⟩ := bind_ok h
     obtain ⟨x2, k2, e2, h⟩ := bind_ok h
     obtain ⟨u3, k3, e3, h⟩ := bind_ok h
     obtain ⟨l4, k4, e4, h⟩ := bind_ok h
     obtain ⟨u5, k5, e5, h⟩ := bind_ok h
     have := mustP_in _ _ _ e5 (labelP_in _ _ _ e4 (mustP_in _ _ _ e3 (exprL_in ih 5 _ _ _ e2 (mustP_in _ _ _ e1 (by omega)))))
     cases h
     exact this
   · cases h
end
end
section
open Go.RowKit Go.Maps
theorem longLabel_calls (x : Lab) (u : Value) (w : World) (hu : Lbl w x u) :
 Calls Tryz.prog 168 #[u] w fun e w' => e = .returned (.bool (longL x)) ∧ Below w.heap.size w w' := by
 obtain ⟨b, o, c, p, rfl, hlc1, hcm1, hp, hcells⟩ := hu.cells
 clear hu
 by_cases h0 : x.length ≤ 200
 · have h0' : (x.length : Int) ≤ 200 := by omega
   go_enter Tryz.func168, Tryz.ntmps168
   go_wp2
   go_loopw [4, 6, 12] (fun _ _ i wr => ∃ k : Nat, k ≤ x.length ∧ i = .int .i64 k ∧ Below w.heap.size w wr ∧ Hid (∀ j (hj : j < x.length), j < k → longP x[j] = false)) (fun _ _ i _ => x.length - (intOf i).toNat)
   case atStart => exact ⟨0, Nat.zero_le _, rfl, Below.refl _ _, fun j _ hj => absurd hj (Nat.not_lt_zero _)⟩
   case round =>
    obtain ⟨k, hk, rfl, hb, HN⟩ := hrel
    by_cases hlt : k < x.length
    · obtain ⟨ur, hca, hcb, hur⟩ := hcells k hlt
      have hcell1 : wr.cell? ⟨b, o + k * 2, none⟩ = some (.string x[k].1) := (hb.cell (cell_lt hca)).trans hca
      have hcell2 : wr.cell? ⟨b, o + k * 2 + 1, none⟩ = some ur := (hb.cell (cell_lt hcb)).trans hcb
      obtain rfl := hp (by omega)
      clear hp hcells hca hcb
      obtain ⟨b7, o7, c7, p7, rfl, hl7, hc7, hp7, hcells7⟩ := hur.cells
      by_cases h6 : 6 < x[k].2.length
      · have h6' : decide (6 < (x[k].2.length : Int)) = true := by simp; omega
        have h6'' : 6 < (x[k].2.length : Int) := by omega
        have HX : Hid (longL x = true) := long_at hlt (longP_many h6)
        go_wp2
        go_ret
        exact ⟨ret_bool HX.out.symm, hb.alloc hb.size _⟩
      · have h6' : decide (6 < (x[k].2.length : Int)) = false := by simp; omega
        have h6'' : (x[k].2.length : Int) ≤ 6 := by omega
        by_cases ho : 12 < x[k].1.size
        · have ho' : decide (12 < (x[k].1.size : Int)) = true := by simp; omega
          have ho'' : 12 < (x[k].1.size : Int) := by omega
          have HX : Hid (longL x = true) := long_at hlt (longP_at rfl (k := 0) (by simp) ho)
          go_wp2
          go_ret
          exact ⟨ret_bool HX.out.symm, hb.alloc hb.size _⟩
        · have ho' : decide (12 < (x[k].1.size : Int)) = false := by simp; omega
          have ho'' : (x[k].1.size : Int) ≤ 12 := by omega
          have hbA : Below w.heap.size w (wr.alloc (.cells #[.string x[k].1, .slice p7 x[k].2.length c7] 77)) := hb.alloc hb.size _
          have hk7 := keeps_of_below hbA
          have HBA := Hd hbA
          have HO := Hd ho
          generalize hrs : x[k].2 = rs at *
          have HRS := Hd hrs
          clear hrs hur hbA ho
          go_wp2
          go_loop [6, 29] (fun _ i => ∃ m : Nat, m ≤ rs.length ∧ i = .int .i64 m ∧ Hid (∀ j (hj : j < rs.length), j < m → ¬ 12 < rs[j].size)) (fun _ i => rs.length - (intOf i).toNat)
          case atStart => exact ⟨0, Nat.zero_le _, rfl, fun j _ hj => absurd hj (Nat.not_lt_zero _)⟩
          case round =>
           obtain ⟨m, hm, rfl, HM⟩ := hrel
           by_cases hltm : m < rs.length
           · have hcell : (wr.alloc (.cells #[.string x[k].1, .slice p7 rs.length c7] 77)).cell? ⟨b7, o7 + m, none⟩ = some (.string rs[m]) := cell_keep hk7 (hcells7 m hltm)
             obtain rfl := hp7 (by omega)
             clear hcells7 hp7
             by_cases hs : 12 < rs[m].size
             · have HX : Hid (longL x = true) := long_at hlt (longP_at (ys := x[k].1 :: rs) (by rw [HRS.out]) (k := m + 1) (by simp; omega) (by simpa using hs))
               have hs' : 12 < (rs[m].size : Int) := by omega
               go_wp2
               go_ret
               exact ⟨ret_bool HX.out.symm, HBA.out⟩
             · have hs' : (rs[m].size : Int) ≤ 12 := by omega
               have HS := Hd hs
               go_wp2
               go_round
               case rel =>
                refine ⟨m + 1, by omega, by go_num, fun j hj hj' => ?_⟩
                by_cases e : j = m
                · subst e; exact HS.out
                · exact HM.out j hj (by omega)
               case measure => simp [intOf]; omega
           · have HX : Hid (longP x[k] = false) := longP_none (ys := x[k].1 :: rs) (by rw [HRS.out]) (by rw [HRS.out]; exact h6) fun j hj => by
              cases j with
              | zero => exact HO.out
              | succ j => exact HM.out j (by simpa using hj) (by simp at hj; omega)
             clear hcells7 hp7
             go_wp2
             go_roundw
             case rel =>
              refine ⟨k + 1, by omega, by go_num, HBA.out, fun j hj hj' => ?_⟩
              by_cases e : j = k
              · subst e; exact HX.out
              · exact HN.out j hj (by omega)
             case measure => simp [intOf]; omega
    · have HX : Hid (longL x = false) := long_none (by omega) fun j hj => HN.out j hj (by omega)
      clear hp hcells
      go_wp2
      go_ret
      exact ⟨ret_bool HX.out.symm, hb⟩
 · have h0' : 200 < (x.length : Int) := by omega
   have HX : Hid (longL x = true) := long_many (by omega)
   go_enter Tryz.func168, Tryz.ntmps168
   go_wp2
   go_ret
   exact ⟨ret_bool HX.out.symm, Below.refl _ _⟩
theorem longL_false {x : Lab} (h : longL x = false) : x.length ≤ 200 ∧ ∀ j (hj : j < x.length), longP x[j] = false := by
 unfold longL at h
 rw [Bool.or_eq_false_iff, List.any_eq_false] at h
 refine ⟨by have := h.1; simp at this; omega, fun j hj => ?_⟩
 have := h.2 _ (List.getElem_mem hj)
 simpa using this
end
section
open Go.RowKit
theorem occ_infix {s sub : List UInt8} : (∃ j, j ≤ s.length ∧ Lib.occAt s sub j = true) ↔ sub <:+: s := by
 constructor
 · rintro ⟨j, _, h⟩
   unfold Lib.occAt at h
   rw [List.isPrefixOf_iff_prefix] at h
   exact h.isInfix.trans (List.drop_suffix j s).isInfix
 · rintro ⟨a, b, rfl⟩
   refine ⟨a.length, by simp, ?_⟩
   unfold Lib.occAt
   rw [List.isPrefixOf_iff_prefix, List.append_assoc, List.drop_left]
   exact List.prefix_append _ _
theorem contains_infix (s sub : List UInt8) : Lib.contains s sub = true ↔ sub <:+: s := by
 rw [← occ_infix]
 unfold Lib.contains
 rcases Lib.index_spec s sub with ⟨h1, h2⟩ | ⟨i, h1, h2, h3, _⟩
 · rw [h1]
   constructor
   · intro h; simp at h
   · rintro ⟨j, hj, h⟩
     rw [h2 j hj] at h
     cases h
 · rw [h1]
   constructor
   · intro _; exact ⟨i, h2, h3⟩
   · intro _; simp
def padL : List Txt → List UInt8
 | [] => [32]
 | x :: l => 32 :: (bytesOf x ++ padL l)
theorem padL_head (l : List Txt) : ∃ u, padL l = 32 :: u := by
 cases l with
 | nil => exact ⟨[], rfl⟩
 | cons x l => exact ⟨_, rfl⟩
theorem prefix_word : ∀ {x y u v : List UInt8}, (32 : UInt8) ∉ x → (32 : UInt8) ∉ y → (x ++ 32 :: u <+: y ++ 32 :: v) → x = y
 | [], [], _, _, _, _, _ => rfl
 | [], b :: y, u, v, _, hy, h => by
   rw [List.nil_append, List.cons_append, List.cons_prefix_cons] at h
   exact absurd (by rw [h.1]; simp) hy
 | a :: x, [], u, v, hx, _, h => by
   rw [List.nil_append, List.cons_append, List.cons_prefix_cons] at h
   exact absurd (by rw [h.1]; simp) hx
 | a :: x, b :: y, u, v, hx, hy, h => by
   rw [List.cons_append, List.cons_append, List.cons_prefix_cons] at h
   rw [h.1, prefix_word (fun m => hx (List.mem_cons_of_mem _ m)) (fun m => hy (List.mem_cons_of_mem _ m)) h.2]
theorem infix_past : ∀ {y s z : List UInt8}, (32 : UInt8) ∉ y → (32 :: s <:+: y ++ z) → 32 :: s <:+: z
 | [], _, _, _, h => h
 | b :: y, s, z, hy, h => by
   rw [List.cons_append, List.infix_cons_iff] at h
   rcases h with h | h
   · rw [List.cons_prefix_cons] at h
     exact absurd (by rw [h.1]; simp) hy
   · exact infix_past (fun m => hy (List.mem_cons_of_mem _ m)) h
theorem pad_infix {x : List UInt8} (hx : (32 : UInt8) ∉ x) : ∀ {l : List Txt}, (∀ y ∈ l, (32 : UInt8) ∉ bytesOf y) → ((32 :: (x ++ [32]) <:+: padL l) ↔ ∃ y ∈ l, bytesOf y = x)
 | [], _ => by
   constructor
   · intro h
     have := h.length_le
     simp [padL] at this
   · rintro ⟨y, hy, _⟩; cases hy
 | y :: l, hl => by
   have hy := hl y List.mem_cons_self
   have ih := pad_infix hx (l := l) fun z hz => hl z (List.mem_cons_of_mem _ hz)
   obtain ⟨u, hu⟩ := padL_head l
   constructor
   · intro h
     unfold padL at h
     rw [List.infix_cons_iff] at h
     rcases h with h | h
     · rw [List.cons_prefix_cons, hu] at h
       exact ⟨y, List.mem_cons_self, (prefix_word hx hy h.2).symm⟩
     · obtain ⟨z, hz, e⟩ := ih.1 (infix_past hy h)
       exact ⟨z, List.mem_cons_of_mem _ hz, e⟩
   · rintro ⟨z, hz, e⟩
     unfold padL
     rcases List.mem_cons.1 hz with rfl | hz
     · rw [e, hu]
       refine List.IsPrefix.isInfix ?_
       rw [List.cons_prefix_cons]
       refine ⟨rfl, u, by simp⟩
     · exact (ih.2 ⟨z, hz, e⟩).trans ((List.suffix_append _ _).isInfix.trans (List.suffix_cons _ _).isInfix)
def padB : List UInt8 := padL wordsL
theorem words_no_blank : ∀ y ∈ wordsL, (32 : UInt8) ∉ bytesOf y := by decide +kernel
theorem word_law (s : Txt) (h0 : bytesOf s ≠ []) (hb : (32 : UInt8) ∉ bytesOf s) : Lib.contains padB (32 :: (bytesOf s ++ [32])) = isWord s := by
 rw [Bool.eq_iff_iff, contains_infix]
 unfold padB isWord
 rw [pad_infix hb words_no_blank, has_iff]
 constructor
 · rintro ⟨y, hy, e⟩
   rw [← txt_ext e]; exact hy
 · intro h; exact ⟨s, h, rfl⟩
theorem word_blank (s : Txt) (hb : (32 : UInt8) ∈ bytesOf s) : isWord s = false := by
 cases h : isWord s with
 | false => rfl
 | true => exact absurd hb (words_no_blank s (has_iff.1 h))
def lettersB : List UInt8 := [97,98,99,100,101,102,103,104,105,106,107,108,109,110,111,112,113,114,115,116,117,118,119,120,121,122,65,66,67,68,69,70,71,72,73,74,75,76,77,78,79,80,81,82,83,84,85,86,87,88,89,90,95]
def figuresB : List UInt8 := [48,49,50,51,52,53,54,55,56,57]
theorem u8_all {p : UInt8 → Bool} (h : (List.range 256).all (fun i => p (UInt8.ofNat i)) = true) (b : UInt8) : p b = true := by
 have := List.all_eq_true.1 h b.toNat (by simpa using b.toNat_lt)
 simpa using this
theorem letters_mem (b : UInt8) : lettersB.contains b = letterB b.toNat := eq_of_beq (u8_all (p := fun b => lettersB.contains b == letterB b.toNat) (by decide +kernel) b)
theorem figures_mem (b : UInt8) : figuresB.contains b = digitB b.toNat := eq_of_beq (u8_all (p := fun b => figuresB.contains b == digitB b.toNat) (by decide +kernel) b)
theorem getD_bytes {l : List UInt8} {j : Nat} (h : j < l.length) : l.getD j 0 = l[j] := by simp [List.getD, h]
theorem wordset_mem (b : UInt8) : (lettersB ++ figuresB).contains b = wordB b.toNat := by
 rw [List.contains_append, letters_mem, figures_mem]; rfl
theorem dropWhile_nil {p : UInt8 → Bool} : ∀ {l : List UInt8}, l.dropWhile p = [] ↔ ∀ b ∈ l, p b = true
 | [] => by simp
 | x :: l => by
   rw [List.dropWhile_cons]
   split
   · rename_i h
     rw [dropWhile_nil]
     simp [h]
   · rename_i h
     constructor
     · intro e; cases e
     · intro e; exact absurd (e x List.mem_cons_self) h
theorem dropWhile_all {p : UInt8 → Bool} : ∀ {l : List UInt8}, (∀ b ∈ l.dropWhile p, p b = true) → l.dropWhile p = []
 | [], _ => rfl
 | x :: l, h => by
   rw [List.dropWhile_cons] at h ⊢
   split
   · rename_i hp
     rw [if_pos hp] at h
     exact dropWhile_all h
   · rename_i hp
     rw [if_neg hp] at h
     exact absurd (h x List.mem_cons_self) hp
theorem trim_nil {l cs : List UInt8} : Lib.trimS l cs = [] ↔ ∀ b ∈ l, cs.contains b = true := by
 unfold Lib.trimS Lib.trimLeftS Lib.trimRightS
 rw [dropWhile_nil]
 constructor
 · intro h
   have h1 : ∀ b ∈ l.reverse.dropWhile (cs.contains ·), cs.contains b = true := fun b hb => h b (by simpa using hb)
   have h2 := dropWhile_nil.1 (dropWhile_all h1)
   exact fun b hb => h2 b (by simpa using hb)
 · intro h b hb
   have : b ∈ l.reverse.dropWhile (cs.contains ·) := by simpa using hb
   have := (List.dropWhile_sublist _).subset this
   exact h b (by simpa using this)
theorem name_law (s : Txt) (h1 : 1 ≤ s.size) (h2 : s.size ≤ 12) (hw : isWord s = false) :
 isName s = (decide (Lib.trimS (bytesOf s) (lettersB ++ figuresB) = []) && !figuresB.contains (s.data.toList.getD 0 0)) := by
 have hL : isName s = (List.range s.size).all (okAt s) := by
  unfold isName
  rw [hw]
  simp [h1, h2]
 rw [hL, figures_mem, Bool.eq_iff_iff, List.all_eq_true, Bool.and_eq_true, decide_eq_true_eq, trim_nil]
 have hget : ∀ j, j < s.size → s.data.toList.getD j 0 ∈ bytesOf s := fun j hj => by
  unfold bytesOf
  rw [getD_bytes (by rw [← bytesOf_len] at hj; exact hj)]
  exact List.getElem_mem _
 have hdl : ∀ n : Int, letterB n = true → digitB n = false := fun n h => by
  unfold letterB at h
  unfold digitB
  simp at h ⊢
  omega
 constructor
 · intro h
   have h0 := h 0 (by simp; omega)
   unfold okAt at h0
   have hl0 : letterB (s.data.toList.getD 0 0).toNat = true := by simpa using h0
   refine ⟨fun b hb => ?_, by rw [hdl _ hl0]; rfl⟩
   rw [wordset_mem]
   obtain ⟨j, hj, e⟩ := List.getElem_of_mem hb
   have hj' : j < s.size := by rw [← bytesOf_len]; exact hj
   have hh := h j (by simpa using hj')
   unfold okAt at hh
   have e' : s.data.toList.getD j 0 = b := by
    exact (getD_bytes (l := s.data.toList) hj).trans e
   rw [e'] at hh
   unfold wordB
   rw [Bool.or_eq_true] at hh ⊢
   rcases hh with hh | hh
   · exact .inl hh
   · rw [Bool.and_eq_true] at hh; exact .inr hh.2
 · rintro ⟨h, h0⟩ j hj
   have hj' : j < s.size := by simpa using hj
   have hb := h _ (hget j hj')
   rw [wordset_mem] at hb
   unfold wordB at hb
   unfold okAt
   rw [Bool.or_eq_true] at hb ⊢
   rcases hb with hb | hb
   · exact .inl hb
   · right
     rw [Bool.and_eq_true]
     refine ⟨?_, hb⟩
     simp
     intro e
     subst e
     rw [hb] at h0
     cases h0
end
section
open Go.RowKit
theorem blank_iff (s : Txt) : decide (0 ≤ Lib.indexByte s.data.toList 32) = true ↔ (32 : UInt8) ∈ bytesOf s := by
 rw [decide_eq_true_iff]
 have hge := Lib.indexByte_ge s.data.toList 32
 constructor
 · intro h
   obtain ⟨o, ho⟩ : ∃ o : Nat, Lib.indexByte s.data.toList 32 = o := ⟨(Lib.indexByte s.data.toList 32).toNat, by omega⟩
   exact List.mem_of_getElem? (Lib.indexByte_some ho).1
 · intro h
   apply Decidable.byContradiction
   intro hn
   have h1 : Lib.indexByte s.data.toList 32 = -1 := by omega
   obtain ⟨k, hk⟩ := List.mem_iff_getElem?.1 h
   exact Lib.indexByte_none h1 k hk
theorem pad_bytes (s : Txt) : (((⟨#[32]⟩ : Txt) ++ s) ++ (⟨#[32]⟩ : Txt)).data.toList = 32 :: (bytesOf s ++ [32]) := by
 show bytesOf _ = _
 rw [bytesOf_append, bytesOf_append]
 rfl
theorem contains_mem (l : List UInt8) (c : UInt8) : Lib.contains l [c] = l.contains c := by
 rw [Bool.eq_iff_iff, contains_infix, List.contains_iff_mem]
 constructor
 · rintro ⟨a, b, e⟩
   rw [← e]; simp
 · intro h
   obtain ⟨a, b, rfl⟩ := List.append_of_mem h
   exact ⟨a, b, by simp⟩
theorem refWord_calls (s : Txt) (m : Int) (w : World) (hs : s.size ≤ 9223372036854775000) (hm : w.cell? ⟨0, 0, none⟩ = some (.int .i64 m)) :
 Calls Tryz.prog 165 #[.string s] w fun e w' => e = .returned (.bool (isWord s)) ∧ w = w' := by
 by_cases h0 : s = ⟨#[]⟩
 · subst h0
   have hx : isWord ⟨#[]⟩ = false := by decide +kernel
   rw [hx]
   go_enter Tryz.func165, Tryz.ntmps165
   go_wp2
   go_ret
   exact ⟨rfl, rfl⟩
 · have hne : bytesOf s ≠ [] := fun e => h0 (txt_ext (by rw [e]; rfl))
   have hq : ¬ s.toList = [] := by rw [Lib.toList_data]; exact hne
   have hqe : s.toList.isEmpty = false := by rw [Lib.toList_data]; cases h : s.data.toList with
    | nil => exact absurd h hne
    | cons => rfl
   have hq1 : ¬ 9223372036854775807 < 1 + s.size := by omega
   have hq2 : ¬ 9223372036854775807 < 1 + s.size + 1 := by omega
   have HPAD : Hid (∀ P : Txt, P.data.toList = padB → Lib.contains P.data.toList (((⟨#[32]⟩ : Txt) ++ s) ++ (⟨#[32]⟩ : Txt)).data.toList = Lib.contains padB (32 :: (bytesOf s ++ [32]))) := fun P h => by rw [h, pad_bytes]
   have HM := Hd hm
   clear h0 hm
   cases hC : Lib.contains padB (32 :: (bytesOf s ++ [32])) with
   | false =>
     have hx : isWord s = false := by
      cases h : isWord s with
      | false => rfl
      | true =>
        have hb : (32 : UInt8) ∉ bytesOf s := fun hb => by rw [word_blank s hb] at h; cases h
        rw [word_law s hne hb, h] at hC
        cases hC
     have HX := Hd hx
     have HC := Hd hC
     clear hx hC hne
     go_enter Tryz.func165, Tryz.ntmps165
     go_wp2_with (fail)
     refine (Tryz.strings_Contains _ _ m _ (by decide +kernel) HM.out).mono ?_
     rintro e w1 ⟨rfl, rfl⟩
     rw [HPAD.out _ ?hp]
     case hp => kernel_rfl
     rw [HC.out]
     go_wp2
     go_ret
     exact ⟨by rw [HX.out]; rfl, rfl⟩
   | true =>
     have HC := Hd hC
     cases hB : decide (0 ≤ Lib.indexByte s.data.toList 32) with
     | true =>
       have hx : isWord s = false := word_blank s ((blank_iff s).1 hB)
       have HX := Hd hx
       have HB := Hd hB
       clear hx hC hne hB
       go_enter Tryz.func165, Tryz.ntmps165
       go_wp2_with (fail)
       refine (Tryz.strings_Contains _ _ m _ (by decide +kernel) HM.out).mono ?_
       rintro e w1 ⟨rfl, rfl⟩
       rw [HPAD.out _ ?hp]
       case hp => kernel_rfl
       rw [HC.out]
       go_wp2_with (fail)
       refine (Tryz.strings_Contains_one s 32 _).mono ?_
       rintro e w2 ⟨rfl, rfl⟩
       rw [HB.out]
       go_wp2
       go_ret
       exact ⟨by rw [HX.out]; rfl, rfl⟩
     | false =>
       have hb : (32 : UInt8) ∉ bytesOf s := fun h => by rw [(blank_iff s).2 h] at hB; cases hB
       have hx : isWord s = true := by rw [← word_law s hne hb]; exact hC
       have HX := Hd hx
       have HB := Hd hB
       clear hx hC hne hB hb
       go_enter Tryz.func165, Tryz.ntmps165
       go_wp2_with (fail)
       refine (Tryz.strings_Contains _ _ m _ (by decide +kernel) HM.out).mono ?_
       rintro e w1 ⟨rfl, rfl⟩
       rw [HPAD.out _ ?hp]
       case hp => kernel_rfl
       rw [HC.out]
       go_wp2_with (fail)
       refine (Tryz.strings_Contains_one s 32 _).mono ?_
       rintro e w2 ⟨rfl, rfl⟩
       rw [HB.out]
       go_wp2
       go_ret
       exact ⟨by rw [HX.out]; rfl, rfl⟩
theorem refName_calls (s : Txt) (m : Int) (w : World) (hs : okTxt s) (hm : w.cell? ⟨0, 0, none⟩ = some (.int .i64 m)) :
 Calls Tryz.prog 96 #[.string s] w fun e w' => e = .returned (.bool (isName s)) ∧ Below w.heap.size w w' := by
 by_cases h0 : s = ⟨#[]⟩
 · subst h0
   have hx : isName ⟨#[]⟩ = false := by decide +kernel
   rw [hx]
   go_enter Tryz.func96, Tryz.ntmps96
   go_wp2
   go_ret
   exact ⟨rfl, Below.refl _ _⟩
 · have hne : bytesOf s ≠ [] := fun e => h0 (txt_ext (by rw [e]; rfl))
   have hq : ¬ s.toList = [] := by rw [Lib.toList_data]; exact hne
   have hqe : s.toList.isEmpty = false := by rw [Lib.toList_data]; cases h : s.data.toList with
    | nil => exact absurd h hne
    | cons => rfl
   have hsz : 1 ≤ s.size := by
    have := List.length_pos_iff.2 hne
    rw [bytesOf_len] at this
    exact this
   have HS := Hd hs
   clear h0 hs
   by_cases h12 : s.size ≤ 12
   · have h12' : (s.size : Int) ≤ 12 := by omega
     have HW := Hd (refWord_calls s m w (by omega) hm)
     have HM := Hd hm
     clear hm
     cases hw : isWord s with
     | true =>
       have hx : isName s = false := by unfold isName; rw [hw]; simp
       have HX := Hd hx
       rw [hw] at HW
       clear hx hne hw
       go_enter Tryz.func96, Tryz.ntmps96
       go_wp2_with (fail)
       refine HW.out.mono ?_
       rintro e w1 ⟨rfl, rfl⟩
       go_wp2
       go_ret
       exact ⟨by rw [HX.out]; rfl, Below.refl _ _⟩
     | false =>
       have hlaw := name_law s hsz h12 hw
       rw [hw] at HW
       have hs1 : (1 : Int) ≤ (s.size : Int) := by omega
       have HT : Hid (∀ cut : Txt, cut.data.toList = lettersB ++ figuresB → Calls Tryz.prog 166 #[.string s, .string cut] w fun e w' => ∃ T : Txt, e = .returned (.string T) ∧ T.toList.isEmpty = decide (Lib.trimS (bytesOf s) (lettersB ++ figuresB) = []) ∧ Below w.heap.size w w') := fun cut hc => by
        have hsz2 : cut.size = 63 := by
         have := congrArg List.length hc
         rw [Array.length_toList] at this
         exact this.trans (by decide +kernel)
        refine (Any.strings_Trim_laid Tryz.lays160 (by kernel_rfl) s cut w (by have := HS.out; unfold okTxt at this; omega) (by omega) (by rw [hc]; exact ascii_of_all (by decide +kernel))).mono ?_
        rintro e w' ⟨rfl, hb⟩
        refine ⟨_, rfl, ?_, hb⟩
        rw [hc, Lib.toList_data]
        show (Lib.trimS (bytesOf s) (lettersB ++ figuresB)).isEmpty = _
        cases Lib.trimS (bytesOf s) (lettersB ++ figuresB) <;> rfl
       have HF : Hid (∀ P : Txt, P.data.toList = figuresB → Lib.contains P.data.toList (s.extract 0 1).data.toList = figuresB.contains (s.data.toList.getD 0 0)) := fun P h => by
        have e1 : (s.extract 0 1).data.toList = [s.data.toList.getD 0 0] := by
         show bytesOf _ = _
         rw [bytesOf_extract]
         unfold bytesOf at hne ⊢
         cases hl : s.data.toList with
         | nil => exact absurd hl hne
         | cons x l => rfl
        rw [h, e1, contains_mem]
       have HLAW := Hd hlaw
       clear hlaw hw hne
       cases hT : decide (Lib.trimS (bytesOf s) (lettersB ++ figuresB) = []) with
       | false =>
         have HX : Hid (isName s = false) := by unfold Hid; rw [HLAW.out, hT]; rfl
         rw [hT] at HT
         clear hT
         go_enter Tryz.func96, Tryz.ntmps96
         go_wp2_with (fail)
         refine HW.out.mono ?_
         rintro e w1 ⟨rfl, rfl⟩
         go_wp2_with (fail)
         refine (HT.out _ ?hc).mono ?_
         case hc => kernel_rfl
         rintro e w2 ⟨T, rfl, hT, hb⟩
         have hT2 : ¬ T.toList = [] := fun e => by rw [e] at hT; cases hT
         go_wp2
         go_ret
         exact ⟨by rw [HX.out]; rfl, hb⟩
       | true =>
         rw [hT] at HT
         cases hf : figuresB.contains (s.data.toList.getD 0 0) with
         | true =>
           have HX : Hid (isName s = false) := by unfold Hid; rw [HLAW.out, hT, hf]; rfl
           rw [hf] at HF
           clear hT hf
           go_enter Tryz.func96, Tryz.ntmps96
           go_wp2_with (fail)
           refine HW.out.mono ?_
           rintro e w1 ⟨rfl, rfl⟩
           go_wp2_with (fail)
           refine (HT.out _ ?hc).mono ?_
           case hc => kernel_rfl
           rintro e w2 ⟨T, rfl, hT, hb⟩
           have hT2 : T.toList = [] := List.isEmpty_iff.1 hT
           go_wp2_with (fail)
           refine (Tryz.strings_Contains _ _ m _ (by decide +kernel) ((hb.cell (cell_lt HM.out)).trans HM.out)).mono ?_
           rintro e w3 ⟨rfl, rfl⟩
           rw [HF.out _ ?hc]
           case hc => kernel_rfl
           go_wp2
           go_ret
           exact ⟨by rw [HX.out]; rfl, hb⟩
         | false =>
           have HX : Hid (isName s = true) := by unfold Hid; rw [HLAW.out, hT, hf]; rfl
           rw [hf] at HF
           clear hT hf
           go_enter Tryz.func96, Tryz.ntmps96
           go_wp2_with (fail)
           refine HW.out.mono ?_
           rintro e w1 ⟨rfl, rfl⟩
           go_wp2_with (fail)
           refine (HT.out _ ?hc).mono ?_
           case hc => kernel_rfl
           rintro e w2 ⟨T, rfl, hT, hb⟩
           have hT2 : T.toList = [] := List.isEmpty_iff.1 hT
           go_wp2_with (fail)
           refine (Tryz.strings_Contains _ _ m _ (by decide +kernel) ((hb.cell (cell_lt HM.out)).trans HM.out)).mono ?_
           rintro e w3 ⟨rfl, rfl⟩
           rw [HF.out _ ?hc]
           case hc => kernel_rfl
           go_wp2
           go_ret
           exact ⟨by rw [HX.out]; rfl, hb⟩
   · have hx : isName s = false := by unfold isName; simp [h12]
     have h12' : ¬ (s.size : Int) ≤ 12 := by omega
     have HX := Hd hx
     clear hx hne h12
     go_enter Tryz.func96, Tryz.ntmps96
     go_wp2
     go_ret
     exact ⟨by rw [HX.out]; rfl, Below.refl _ _⟩
end
section
open Go.RowKit Go.Maps
def MaxL (w : World) : Prop := ∃ m : Int, w.cell? ⟨0, 0, none⟩ = some (.int .i64 m)
theorem MaxL.below {w w' : World} (h : MaxL w) (hb : Below w.heap.size w w') : MaxL w' := by
 obtain ⟨m, h⟩ := h
 exact ⟨m, (hb.cell (cell_lt h)).trans h⟩
theorem refNameM_calls (s : Txt) (w : World) (hs : okTxt s) (hm : MaxL w) : Calls Tryz.prog 96 #[.string s] w fun e w' => e = .returned (.bool (isName s)) ∧ Below w.heap.size w w' := by
 obtain ⟨m, hm⟩ := hm
 exact refName_calls s m w hs hm
theorem refNot_calls (s : Txt) (w : World) (hs : okTxt s) (hm : MaxL w) : Calls Tryz.prog 170 #[.string s] w fun e w' => e = .returned (.bool (!isName s)) ∧ Below w.heap.size w w' := by
 have HN := Hd (refNameM_calls s w hs hm)
 generalize isName s = b at *
 go_enter Tryz.func170, Tryz.ntmps170
 go_wp2_with (fail)
 refine HN.out.mono ?_
 rintro e w1 ⟨rfl, hb⟩
 go_wp2_with (fail)
 go_ret
 exact ⟨rfl, hb⟩
def polBad (p : Pol) : Bool := !isName p.1 || anyBy p.2 fun s => !isName s
def formLR (l : Lab) : Bool := !longL l && !anyBy l polBad
theorem anyBy_at {α : Type} {l : List α} {q : α → Bool} {k : Nat} (hk : k < l.length) (h : q l[k] = true) : anyBy l q = true := List.any_eq_true.2 ⟨_, List.getElem_mem hk, h⟩
theorem anyBy_none {α : Type} {l : List α} {q : α → Bool} (h : ∀ j (hj : j < l.length), q l[j] = false) : anyBy l q = false := by
 unfold anyBy
 rw [List.any_eq_false]
 intro x hx
 obtain ⟨j, hj, rfl⟩ := List.getElem_of_mem hx
 rw [h j hj]
 simp
theorem txt12 {s : Txt} (h : s.size ≤ 12) : okTxt s := by unfold okTxt; omega
theorem formLabel_calls (l : Lab) (v : Value) (w : World) (hv : Lbl w l v) (hm : MaxL w) :
 Calls Tryz.prog 97 #[v] w fun e w' => e = .returned (.bool (formLR l)) ∧ Below w.heap.size w w' := by
 have HLG := Hd (longLabel_calls l v w hv)
 have HR : Hid (formLR l = (!longL l && !anyBy l polBad)) := rfl
 obtain ⟨b, o, c, p, rfl, hmax, hp, hl⟩ := hv.at
 have HL := Hd hl
 have HP := Hd hp
 have HM := Hd hm
 clear hl hp hv hm
 cases hlg : longL l with
 | true =>
   rw [hlg] at HLG HR
   go_enter Tryz.func97, Tryz.ntmps97
   go_wp2_with (fail)
   refine HLG.out.mono ?_
   rintro e w1 ⟨rfl, hb⟩
   go_wp2_with (fail)
   go_ret
   exact ⟨by rw [HR.out]; rfl, hb⟩
 | false =>
   have HSZ := Hd (longL_false hlg)
   rw [hlg] at HLG HR
   clear hlg
   have eg : ∀ args w, (callFunc 170 args).run Tryz.prog w = .ok (.enter 170 args) w := enters_at Tryz.func170 (by kernel_rfl) rfl
   have HEG := Hd eg
   clear eg
   go_enter Tryz.func97, Tryz.ntmps97
   go_wp2_with (fail)
   refine HLG.out.mono ?_
   rintro e w1 ⟨rfl, hb⟩
   have HB1 := Hd hb
   clear hb
   go_wp2_with (fail)
   go_loopw [4, 9] (fun _ i ws => ∃ (k : Nat) (wo : World), k ≤ l.length ∧ i = .int .i64 k ∧ wo = ws ∧ Hid (Below w.heap.size w wo) ∧ Hid (∀ j (hj : j < l.length), j < k → polBad l[j] = false)) (fun _ i _ => l.length - (intOf i).toNat)
   case atStart => exact ⟨0, _, Nat.zero_le _, rfl, rfl, HB1.out, fun j _ h => absurd h (by omega)⟩
   case round =>
    obtain ⟨k, wo, hk, rfl, rfl, HB, HA⟩ := hrel
    by_cases hlt : k < l.length
    · obtain ⟨pr, cr, s1, z0, z1⟩ := HL.out k hlt
      have hbk := keeps_of_below HB.out
      have q0 := hbk.2 _ _ _ z0
      have q1 := hbk.2 _ _ _ z1
      obtain rfl := HP.out (by omega)
      have hki : (k : Int) < (l.length : Int) := by omega
      have hk0 : (0 : Int) ≤ (k : Int) := by omega
      have hkm : (k : Int) + 1 ≤ 9223372036854775807 := by omega
      obtain ⟨t1, t2, t3⟩ := longP_false (HSZ.out.2 k hlt)
      have HAT : Hid (polBad l[k] = true → anyBy l polBad = true) := fun h => anyBy_at hlt h
      have HAN : Hid (polBad l[k] = false → ∀ j (hj : j < l.length), j < k + 1 → polBad l[j] = false) := fun h j h1 h3 => by
       rcases Nat.lt_or_ge j k with h4 | h4
       · exact HA.out j h1 h4
       · obtain rfl : j = k := by omega
         exact h
      have HLT := Hd hlt
      generalize l[k] = x at *
      obtain ⟨W2, eW⟩ : ∃ W2, wo.alloc (.cells #[.string x.1, .slice pr x.2.length cr] 77) = W2 := ⟨_, rfl⟩
      have hb2 : Below wo.heap.size wo W2 := by rw [← eW]; exact (Below.refl _ _).alloc (Nat.le_refl _) _
      have hX : Blk W2 wo.heap.size [.string x.1, .slice pr x.2.length cr] 77 := by rw [← eW]; exact Blk.new _ _ _
      have HBW := Hd (HB.out.trans (hb2.mono HB.out.size))
      have d0 := hX.cell 0
      have d1 := hX.cell 1
      simp only [List.getElem?_cons_zero, List.getElem?_cons_succ] at d0 d1
      have hs2 := (s1.stays hbk).stays (keeps_of_below hb2)
      have HXB : Hid (∀ W, Below W2.heap.size W2 W → W.cell? ⟨wo.heap.size, 1, none⟩ = some (.slice pr x.2.length cr) ∧ Calls Tryz.prog 169 #[.slice pr x.2.length cr, .func (.func 170) #[] #[]] W fun e w' => e = .returned (.bool (anyBy x.2 fun s => !isName s)) ∧ Below W.heap.size W w') := fun W hb => by
       refine ⟨?_, containsFunc_calls x.2 _ 170 #[] (fun s => !isName s) W (hs2.stays (keeps_of_below hb)) HEG.out fun y hy W' hb' => ?_⟩
       · have := (hX.below hb).cell 1
         simpa using this
       · simpa using refNot_calls y W' (txt12 (t3 y hy)) (((HM.out.below HBW.out).below (hb.mono (by exact Nat.le_refl _))).below hb')
      have HNC := Hd (refNameM_calls x.1 W2 (txt12 t2) (HM.out.below HBW.out))
      have HPB : Hid (polBad x = (!isName x.1 || anyBy x.2 fun s => !isName s)) := rfl
      clear z0 z1 s1 hbk hb2 hX hs2 hlt hk t1 t2 t3
      generalize (anyBy x.2 fun s => !isName s) = b2 at *
      cases hn : isName x.1 with
      | false =>
        rw [hn] at HNC HPB
        have HE : Hid (anyBy l polBad = true) := HAT.out (by rw [HPB.out]; rfl)
        clear hn HAT HAN
        go_wp2_with (fail)
        refine HNC.out.mono ?_
        rintro e w3 ⟨rfl, hb3⟩
        have HB3 := Hd (HBW.out.trans (hb3.mono HBW.out.size))
        clear hb3
        go_wp2_with (fail)
        go_ret
        exact ⟨by rw [HR.out, HE.out]; rfl, HB3.out⟩
      | true =>
        rw [hn] at HNC HPB
        cases b2 with
        | true =>
          have HE : Hid (anyBy l polBad = true) := HAT.out (by rw [HPB.out]; rfl)
          clear hn HAT HAN
          go_wp2_with (fail)
          refine HNC.out.mono ?_
          rintro e w3 ⟨rfl, hb3⟩
          obtain ⟨g1, hcc⟩ := HXB.out w3 hb3
          have HCC := Hd hcc
          have HB3 := Hd (HBW.out.trans (hb3.mono HBW.out.size))
          clear hb3 hcc
          go_wp2_with (fail)
          refine HCC.out.mono ?_
          rintro e w4 ⟨rfl, hb4⟩
          have HB4 := Hd (HB3.out.trans (hb4.mono HB3.out.size))
          clear hb4
          go_wp2_with (fail)
          go_ret
          exact ⟨by rw [HR.out, HE.out]; rfl, HB4.out⟩
        | false =>
          have HN := Hd (HAN.out (by rw [HPB.out]; rfl))
          clear hn HAT HAN
          go_wp2_with (fail)
          refine HNC.out.mono ?_
          rintro e w3 ⟨rfl, hb3⟩
          obtain ⟨g1, hcc⟩ := HXB.out w3 hb3
          have HCC := Hd hcc
          have HB3 := Hd (HBW.out.trans (hb3.mono HBW.out.size))
          clear hb3 hcc
          go_wp2_with (fail)
          refine HCC.out.mono ?_
          rintro e w4 ⟨rfl, hb4⟩
          have HB4 := Hd (HB3.out.trans (hb4.mono HB3.out.size))
          clear hb4
          go_wp2_with (fail)
          go_roundw
          case rel => exact ⟨k + 1, _, by have h1 := HLT.out; omega, by go_num, rfl, HB4.out, HN.out⟩
          case measure => have h1 := HLT.out; simp [intOf]; omega
    · have hki : ¬ (k : Int) < (l.length : Int) := by omega
      have HE : Hid (anyBy l polBad = false) := anyBy_none fun j hj => HA.out j hj (by omega)
      go_wp2_with (fail)
      go_ret
      exact ⟨by rw [HR.out, HE.out]; rfl, HB.out⟩
end
end Go.Proofs.YtmepcmnpmhhiiaaGreatDoor
