/- Texts of the proof that ParseExpr holds, part 10; no conditions. -/
import Derived.Test.YtmepcmnpmhhiiaaGreatDoorPE09
import Derived.Test.YtmepcmnpmhhiiaaGreatDoorPE04
import Derived.Lib.Atoi
import Derived.Test.YtmepcmnpmhhiiaaGreatDoorPE03
import Derived.Shelf.SlicesE.Clone
import Derived.Recover
import Derived.Defers
import Derived.Test.YtmepcmnpmhhiiaaGreatDoorPE06
import Derived.BigQuiet
import Derived.Test.YtmepcmnpmhhiiaaGreatDoorPE02
import Derived.Deep.AppendLies
import Derived.Deep.RegionLaw
namespace Go.Proofs.YtmepcmnpmhhiiaaGreatDoor
set_option linter.unusedVariables false
set_option linter.unusedSimpArgs false
set_option maxHeartbeats 8000000
set_option maxRecDepth 100000
section
open Go.RowKit Go.Maps
def AtoiC (T : List Tok) : Prop := ∀ k, (tkNext T k).1 = 2 → ∀ W, Calls Tryz.prog 188 #[.string (tkNext T k).2.2] W fun e w' => e = .returned (.tuple #[.int .i64 (numT (tkNext T k).2.2), .nilIface]) ∧ Below W.heap.size W w'
section
variable {B : Nat} {T : List Tok} {E : Int} {tv : Value} {dp : Nat}
theorem primary_calls (hlev : LevelC) (hato : AtoiC T) : ∀ (d ns : Nat), ns + d = 12 → ReadsEx B T E tv dp ns 136 #[.pointer (some ⟨B, 0, none⟩)] (primP T E d) := by
 intro d
 induction d with
 | zero =>
   intro ns hn W k h
   exact prim_deep h (by omega)
 | succ d ih =>
   intro ns hn W k h
   have hns : ns < 12 := by omega
   have hp := ih (ns + 1) (by omega)
   have hx := expr_one hlev (primP_mono d) hp
   unfold primP
   by_cases h2 : (tkNext T k).1 = 2
   · rw [if_pos h2]
     exact prim_num h hns h2 (hato k h2)
   rw [if_neg h2]
   cases htt : tkIs T k tTrue with
   | true =>
     rw [if_pos rfl]
     exact prim_true h hns h2 htt
   | false =>
   rw [if_neg (by simp)]
   cases htf : tkIs T k tFalse with
   | true =>
     rw [if_pos rfl]
     exact prim_false h hns h2 htt htf
   | false =>
   rw [if_neg (by simp)]
   by_cases h1 : (tkNext T k).1 = 1
   · rw [if_pos h1]
     cases hl : tkIs T (k + 1) tLeft with
     | true =>
       rw [if_pos rfl]
       cases hq : argsP T E (primP T E d) (k + 1) with
       | bad c a => exact prim_call_bad h hns h2 htt htf h1 hx hl hq
       | ok l k2 => exact prim_call h hns h2 htt htf h1 hx hl hq
     | false =>
       rw [if_neg (by simp)]
       exact prim_var h hns h2 htt htf h1 hl
   rw [if_neg h1]
   cases htm : tkIs T k tMinus with
   | true =>
     rw [if_pos (by simp)]
     cases hq : primP T E d (k + 1) with
     | bad c a => exact prim_neg_bad h hns h2 htt htf h1 htm hp hq
     | ok x k2 => exact prim_neg h hns h2 htt htf h1 htm hp hq
   | false =>
   cases htn : tkIs T k tNot with
   | true =>
     rw [if_pos (by simp)]
     cases hq : primP T E d (k + 1) with
     | bad c a => exact prim_not_bad h hns h2 htt htf h1 htm htn hp hq
     | ok x k2 => exact prim_not h hns h2 htt htf h1 htm htn hp hq
   | false =>
   rw [if_neg (by simp)]
   cases htl : tkIs T k tLeft with
   | true =>
     rw [if_pos rfl]
     cases hq : exprL T (primP T E d) 5 (k + 1) with
     | bad c a => exact prim_par_xbad h hns h2 htt htf h1 htm htn htl hx hq
     | ok x k1 =>
       show Calls _ _ _ _ (Does _ _ _ _ _ _ _ _ ((mustP T E tRight k1).bind fun _ k3 => .ok x k3))
       cases hq2 : mustP T E tRight k1 with
       | bad c a => exact prim_par_mbad h hns h2 htt htf h1 htm htn htl hx hq hq2
       | ok u k2 => exact prim_par_ok h hns h2 htt htf h1 htm htn htl hx hq hq2
   | false =>
   rw [if_neg (by simp)]
   cases htr : tkIs T k tRelease with
   | true =>
     rw [if_pos rfl]
     cases q0 : mustP T E tLeft (k + 1) with
     | bad c a => exact prim_rel0 h hns h2 htt htf h1 htm htn htl htr q0
     | ok u1 k1 =>
     show Calls _ _ _ _ (Does _ _ _ _ _ _ _ _ ((exprL T (primP T E d) 5 k1).bind _))
     cases q1 : exprL T (primP T E d) 5 k1 with
     | bad c a => exact prim_rel1 h hns h2 htt htf h1 htm htn htl htr hx q0 q1
     | ok x k2 =>
     show Calls _ _ _ _ (Does _ _ _ _ _ _ _ _ ((mustP T E tTo k2).bind _))
     cases q2 : mustP T E tTo k2 with
     | bad c a => exact prim_rel2 h hns h2 htt htf h1 htm htn htl htr hx q0 q1 q2
     | ok u3 k3 =>
     show Calls _ _ _ _ (Does _ _ _ _ _ _ _ _ ((labelP T E k3).bind _))
     cases q3 : labelP T E k3 with
     | bad c a => exact prim_rel3 h hns h2 htt htf h1 htm htn htl htr hx q0 q1 q2 q3
     | ok lb k4 =>
     show Calls _ _ _ _ (Does _ _ _ _ _ _ _ _ ((mustP T E tRight k4).bind _))
     cases q4 : mustP T E tRight k4 with
     | bad c a => exact prim_rel4 h hns h2 htt htf h1 htm htn htl htr hx q0 q1 q2 q3 q4
     | ok u5 k5 => exact prim_rel5 h hns h2 htt htf h1 htm htn htl htr hx q0 q1 q2 q3 q4
   | false =>
   rw [if_neg (by simp)]
   exact prim_fail h hns h2 htt htf h1 htm htn htl htr
theorem exprTop_calls (hlev : LevelC) (hato : AtoiC T) : ReadsEx B T E tv dp 0 55 #[.pointer (some ⟨B, 0, none⟩), .int .i64 1] (exprL T (primP T E 12) 5) :=
 expr_one hlev (primP_mono 12) (primary_calls hlev hato 12 0 rfl)
end
end
section
open Go.RowKit
theorem decFrom_digits : ∀ (l : List UInt8) (acc : Nat), (∀ b ∈ l, digitB b.toNat = true) → Lib.decFrom acc l = some (l.foldl (fun n b => n * 10 + (b.toNat - 48)) acc) := by
 intro l
 induction l with
 | nil => intro acc _; rfl
 | cons b l ih =>
   intro acc h
   have hb := h b (by simp)
   unfold digitB at hb
   simp at hb
   have e : Lib.digitVal b = some (b.toNat - 48) := by unfold Lib.digitVal; rw [if_pos (by omega)]
   simp only [Lib.decFrom, e, List.foldl_cons]
   exact ih _ fun c hc => h c (by simp [hc])
theorem num_atoi {r u : List UInt8} {c : UInt8} {t : Txt} (e : r = c :: u) (h : stepB r = .tok 2 t) : t.size ≤ 9 ∧ Lib.atoi t.data.toList = some (numT t) := by
 obtain ⟨_, h⟩ := (step_ways e).1 h
 rcases h with ⟨_, h⟩ | ⟨h1, h2, h⟩ | ⟨_, _, h⟩
 · unfold wordOf at h
   split at h
   · injection h with a b; cases a
   · split at h
     · injection h with a b; cases a
     · cases h
 · have ht := numOf_tok h
   unfold numOf at h
   split at h
   · cases h
   · rename_i h9
     rw [← ht] at h9
     refine ⟨by omega, ?_⟩
     have hl : t.data.toList = runB digitB r := by rw [ht]; rfl
     have hd : ∀ b ∈ t.data.toList, digitB b.toNat = true := fun b hb => by rw [hl] at hb; exact tw_mem hb
     have hc : ∃ l, t.data.toList = c :: l := by
      rw [hl, e]
      unfold runB
      rw [List.takeWhile_cons, if_pos h2]
      exact ⟨_, rfl⟩
     obtain ⟨l, hl2⟩ := hc
     have hcd := hd c (by rw [hl2]; simp)
     unfold digitB at hcd
     simp at hcd
     have n1 : (c == 45) = false := beq_false_of_ne (fun e => by subst e; simp at hcd)
     have n2 : (c == 43) = false := beq_false_of_ne (fun e => by subst e; simp at hcd)
     have hf := decFrom_digits t.data.toList 0 hd
     unfold numT
     have e2 : t.toList = t.data.toList := ByteArray.toList_eq t
     rw [e2]
     generalize hL : t.data.toList = L at *
     subst hl2
     simp only [Lib.atoi, n1, n2, Bool.false_eq_true, if_false, Lib.decNat, List.isEmpty_cons, hf, Option.map_some]
 · have := (signsFind_tok h).1
   cases this
theorem atoi_calls {s : Txt} {T : List Tok} (hT : ∀ t ∈ T, Stands s t) : AtoiC T := by
 intro k hk W
 have hlt : k < T.length := kind_lt (by omega)
 have ht := hT _ (List.getElem_mem hlt)
 rw [← tkNext_lt hlt] at ht
 obtain ⟨p, h1, h2, h3, h4, h5⟩ := ht
 rw [hk] at h3
 obtain ⟨h6, h7⟩ := num_atoi (rest_cons h1) h3
 refine (Tryz.strconv_Atoi _ _ (by omega) h7 W).mono ?_
 rintro e w' ⟨rfl, t, rfl⟩
 exact ⟨rfl, Lib.bytesWorld_below _ _ _⟩
end
section
open Go.RowKit Go.Maps
theorem tok_one : ∀ {w : World} {x : Tok} {vs : List Value}, tokE w x vs → ∀ u ∈ vs, u.oneCell' = true := by
 intro w x vs h
 obtain ⟨us, us', e1, e2, us2, us3, e3, e4, e5⟩ := h
 have e2' : us = [.int .i64 x.1] := e2
 have e4' : us2 = [.int .i64 x.2.1] := e4
 have e5' : us3 = [.string x.2.2] := e5
 subst e2' e4' e5' e3 e1
 intro u hu
 simp at hu
 rcases hu with rfl | rfl | rfl <;> rfl
theorem toks_one : ∀ {w : World} {T : List Tok} {vs : List Value}, Rows tokE 3 w T vs → ∀ u ∈ vs, u.oneCell' = true := by
 intro w T
 induction T with
 | nil => intro vs h u hu; simp [Rows] at h; subst h; cases hu
 | cons x T ih =>
   intro vs h u hu
   obtain ⟨a, b, rfl, h1, h2, h3⟩ := h
   rcases List.mem_append.1 hu with hu | hu
   · exact tok_one h1 u hu
   · exact ih h3 u hu
theorem toks_any : ∀ {w w' : World} {T : List Tok} {vs : List Value}, Rows tokE 3 w T vs → Rows tokE 3 w' T vs := by
 intro w w' T
 induction T with
 | nil => intro vs h; exact h
 | cons x T ih =>
   intro vs h
   obtain ⟨a, b, e, h1, h2, h3⟩ := h
   exact ⟨a, b, e, h1, h2, ih h3⟩
theorem cloneTok_calls (T : List Tok) (v : Value) (w : World) (h : Toks w T v) (hn : T.length ≤ 600) :
 Calls Tryz.prog 126 #[v] w fun e w' => ∃ v', e = .returned v' ∧ Toks (hide (fun b => decide (b < w.heap.size)) w') T v' ∧ Below w.heap.size w w' := by
 obtain ⟨t0, hi, hz0, hz1, hz2⟩ := info_parts Tryz.info_token
 obtain ⟨p, c, vs, rfl, hlc, hcm, hr, hp, hx⟩ := SliceOf.rows (by decide) h
 have q25 : ∀ (w : World) (a : Option Addr) (n c n' c' : Nat), (binOp .eql 79 (.slice a n c) (.slice none n' c')).run Tryz.prog w = .ok (.bool a.isNone) w := fun w a n c n' c' => Lib.run_eql_slice_nil w _ _ a n c n' c' Tryz.underlying79
 cases p with
 | none =>
   have h0 := hp rfl
   have hx0 : T = [] := List.eq_nil_of_length_eq_zero h0
   subst hx0
   clear hx hp hr
   go_enter Tryz.func126, Tryz.ntmps126
   go_wp2
   go_ret
   exact ⟨_, rfl, ⟨none, 0, rfl, Nat.le_refl _, by unfold maxLen; decide, .inl rfl⟩, Below.refl _ _⟩
 | some ad =>
   have hx' : ∀ (j : Nat) (u : Value), vs[j]? = some u → w.cell? (ad.add j) = some u := hx ad rfl
   have HX := Hd hx'
   have hvl := hr.length
   have h1 := toks_one hr
   have HR := Hd hr
   have HVL := Hd hvl
   have H1 := Hd h1
   clear hx hx' hp hr hvl h1
   go_enter Tryz.func126, Tryz.ntmps126
   go_wp2_with (at_builtin; refine wpList_append_own _ rfl _ _ 79 rfl w.heap.size 153 t0 (.agg #[.int .i64 0, .int .i64 0, .string ByteArray.empty]) 3 32 Tryz.underlying79 hi hz0 hz1 hz2 rfl (by decide) _ _ _ rfl (World.ownsRow_made w #[] 0 (Nat.le_refl _) (Nat.zero_le _) (by simp)) ad T.length c vs rfl HVL.out ?qc2 H1.out ?qc4 ?qc5 ?qc6 ?_)
   case qc2 =>
    intro j u hj
    exact Lib.cell?_alloc_some _ (HX.out j u hj)
   case qc4 => unfold maxLen; omega
   case qc5 => omega
   case qc6 => simp
   intro v' w1 hown hgrow _
   have hB : Below w.heap.size w w1 := ((Below.refl _ w).alloc (Nat.le_refl _) _).grown hgrow (by simp) (by intro k hk; simp [Value.ownBlock] at hk; omega)
   have hS : Toks (hide (fun b => decide (b < w.heap.size)) w1) T v' := SliceOf.of_rows (own_hide (by simpa using hown) fun g hg => decide_eq_false (by omega)) (toks_any HR.out)
   have HB := Hd hB
   have HS := Hd hS
   clear hown hgrow hB hS
   go_wp2
   go_ret
   exact ⟨_, rfl, HS.out, HB.out⟩
end
section
open Go.RowKit Go.Maps
def PostS (P : Program) (fn : Func) (c₀ : Frame) (cs : List Frame) (R : Ending → FrameMode → World → Prop) (cs' : List Frame) : Exit → Act → World → Prop := fun e a w => bodyPostS P fn c₀ cs R e a cs' w
theorem wpS_post {P : Program} {fn : Func} {c₀ : Frame} {cs cs' : List Frame} {R : Ending → FrameMode → World → Prop} {c : Code} {a : Act} {w : World} (h : c.wp P (PostS P fn c₀ cs R cs') a w) : c.wpS P (bodyPostS P fn c₀ cs R) a cs' w := wpS_of_wp h
theorem catch_idle (n4 n5 : Nat) (W : World) :
 CallsD Tryz.prog 135 #[.pointer (some ⟨n4, 0, none⟩), .pointer (some ⟨n5, 0, none⟩)] .returning W fun e u' w' => e = .returned (.tuple #[]) ∧ u' = .returning ∧ w' = W := by
 refine callsD_of_wpS Tryz.func135 rfl fun c₀ cs hu => ?_
 apply wpS_seq
 apply wpS_region
 simp [wpOpsS, go_sem, recoverD, hu, Tryz.ntmps135, Exit.thenS]
 simp only [Array.replicate_succ, Array.replicate_zero, List.push_toArray, List.append_toArray, List.nil_append, List.cons_append, List.setIfInBounds_toArray, List.set_cons_zero, List.set_cons_succ]
 refine wpS_post ?_
 go_wp2_with (fail)
 refine ⟨rfl, .returning, ?_, .tuple #[], results_none rfl _ _ _, rfl, rfl, rfl⟩
 cases c₀
 simp_all
theorem catch_stop (n4 n5 : Nat) (W : World) (c a c0 a0 : Int) (x0 x1 x2 x3 x4 x5 x6 : Value) (h4 : Blk W n4 [x0, x1, x2, x3, x4, x5, x6] 26) (h5 : Blk W n5 [.int .i64 c0, .int .i64 a0] 35) (hne : n4 ≠ n5) :
 CallsD Tryz.prog 135 #[.pointer (some ⟨n4, 0, none⟩), .pointer (some ⟨n5, 0, none⟩)] (.panicking [{ v := stopV c a, recovered := false }]) W fun e u' w' => e = .returned (.tuple #[]) ∧ u' = .panicking [{ v := stopV c a, recovered := true }] ∧
  (Blk w' n4 zeroC 26 ∧ Blk w' n5 [.int .i64 c, .int .i64 a] 35 ∧ ∀ n w0, n ≤ n4 → n ≤ n5 → n ≤ W.heap.size → Below n w0 W → Below n w0 w') := by
 have hta : ∀ (w : World), (Instr.typeAssert (.iface 160 (.agg #[.int .i64 c, .int .i64 a])) 20 160 true).run Tryz.prog w = .ok (.tuple #[.agg #[.int .i64 c, .int .i64 a], .bool true]) w := fun _ => rfl
 obtain ⟨q0, q1, q2, q3, q4, q5, q6⟩ := h4.cells7
 obtain ⟨f0, f1, f2, f3, f4, f5, f6⟩ := h4.fz7
 have g0 := h5.cell 0
 have g1 := h5.cell 1
 have k0 := h5.fz 0
 have k1 := h5.fz 1
 refine callsD_of_wpS Tryz.func135 rfl fun c₀ cs hu => ?_
 apply wpS_seq
 apply wpS_region
 simp [wpOpsS, go_sem, recoverD, hu, Tryz.ntmps135, Exit.thenS, stopV]
 simp only [Array.replicate_succ, Array.replicate_zero, List.push_toArray, List.append_toArray, List.nil_append, List.cons_append, List.setIfInBounds_toArray, List.set_cons_zero, List.set_cons_succ]
 refine wpS_post ?_
 obtain ⟨W2, eW⟩ : ∃ W2, (W.alloc (.cells #[.int .i64 c, .int .i64 a] 160)).alloc (.cells #[.int .i64 0, .int .i64 0, .int .i64 0, .int .i64 0, .string ⟨#[]⟩, .slice none 0 0, .slice none 0 0] 26) = W2 := ⟨_, rfl⟩
 obtain ⟨z2, hb2, m0, m1⟩ := boxes2 eW
 have HN : Hid (n4 < W.heap.size ∧ n5 < W.heap.size ∧ n4 ≠ n5) := ⟨h4.lt, h5.lt, hne⟩
 have HS0 : Hid (∀ V : World, (∀ b, b = W.heap.size ∨ b = W.heap.size + 1 → V.heap[b]? = W2.heap[b]?) → (V.cell? ⟨W.heap.size, 0, none⟩ = some (.int .i64 c) ∧ V.cell? ⟨W.heap.size, 1, none⟩ = some (.int .i64 a) ∧ V.cell? ⟨W.heap.size + 1, 0, none⟩ = some (.int .i64 0) ∧ V.cell? ⟨W.heap.size + 1, 1, none⟩ = some (.int .i64 0) ∧ V.cell? ⟨W.heap.size + 1, 2, none⟩ = some (.int .i64 0) ∧ V.cell? ⟨W.heap.size + 1, 3, none⟩ = some (.int .i64 0) ∧ V.cell? ⟨W.heap.size + 1, 4, none⟩ = some (.string ⟨#[]⟩) ∧ V.cell? ⟨W.heap.size + 1, 5, none⟩ = some (.slice none 0 0) ∧ V.cell? ⟨W.heap.size + 1, 6, none⟩ = some (.slice none 0 0))) := fun V h => by
  have a0 : ∀ o, V.cell? ⟨W.heap.size, o, none⟩ = _ := fun o => (World.cell?_of_block (a := ⟨W.heap.size, o, none⟩) (h _ (.inl rfl))).trans (m0 o)
  have a1 : ∀ o, V.cell? ⟨W.heap.size + 1, o, none⟩ = _ := fun o => (World.cell?_of_block (a := ⟨W.heap.size + 1, o, none⟩) (h _ (.inr rfl))).trans (m1 o)
  exact ⟨a0 0, a0 1, a1 0, a1 1, a1 2, a1 3, a1 4, a1 5, a1 6⟩
 have HB4 := Hd ((h4.below hb2).below (below_drew1 W2))
 have HB5 := Hd ((h5.below hb2).below (below_drew1 W2))
 have HC4 := Hd (h4.below hb2)
 have HC5 := Hd (h5.below hb2)
 have hn1 : ¬ n4 = n5 := hne
 have hn2 : ¬ n5 = n4 := fun e => hne e.symm
 have HBQ := Hd hb2
 have HBW := Hd (hb2.trans ((below_drew1 W2).mono hb2.size))
 have HV : Hid (∀ (V : World), V = sev W2 n4 (.int .i64 0) (.int .i64 0) (.int .i64 0) (.int .i64 0) (.string ⟨#[]⟩) (.slice none 0 0) (.slice none 0 0) → Blk V n4 zeroC 26 ∧ Blk V n5 [.int .i64 c0, .int .i64 a0] 35 ∧ (∀ b, b = W.heap.size ∨ b = W.heap.size + 1 → V.heap[b]? = W2.heap[b]?) ∧ ∀ n w0, n ≤ n4 → n ≤ W.heap.size → Below n w0 W → Below n w0 V) := fun V e => by
  subst e
  refine ⟨Blk.sev HC4.out, (sev_block HN.out.2.2).trans HC5.out, fun b hb => sev_block (by have h1 := HN.out; omega), fun n w0 h1 h2 h3 => ?_⟩
  have h4 := h3.trans (HBQ.out.mono h2)
  unfold sev
  exact (((((((h4.setCell h1 _).setCell h1 _).setCell h1 _).setCell h1 _).setCell h1 _).setCell h1 _).setCell h1 _)
 have HV5 : Hid (∀ (V V' : World), V = sev W2 n4 (.int .i64 0) (.int .i64 0) (.int .i64 0) (.int .i64 0) (.string ⟨#[]⟩) (.slice none 0 0) (.slice none 0 0) → ∀ u v, V' = (V.setCell ⟨n5, 0, none⟩ u).setCell ⟨n5, 1, none⟩ v → Blk V' n4 zeroC 26 ∧ Blk V' n5 [u, v] 35 ∧ (∀ b, b = W.heap.size ∨ b = W.heap.size + 1 → V'.heap[b]? = W2.heap[b]?) ∧ ∀ n w0, n ≤ n4 → n ≤ n5 → n ≤ W.heap.size → Below n w0 W → Below n w0 V') := fun V V' e u v e' => by
  obtain ⟨h1, h2, h3, h4⟩ := HV.out V e
  subst e'
  have hq : ∀ (X : World) (o : Nat) (x : Value) (b : Nat), b ≠ n5 → (X.setCell ⟨n5, o, none⟩ x).heap[b]? = X.heap[b]? := fun X o x b hb => Below.heap_setCell _ _ _ _ (by simpa using hb)
  refine ⟨(h1.other HN.out.2.2 _ _).other HN.out.2.2 _ _, ?_, fun b hb => ?_, fun n w0 k1 k2 k3 k4 => ((h4 n w0 k1 k3 k4).setCell k2 _).setCell k2 _⟩
  · have := (h2.set 0 u).set 1 v
    simpa using this
  · rw [hq _ _ _ _ (by have := HN.out; omega), hq _ _ _ _ (by have := HN.out; omega)]
    exact h3 b hb
 have HK1 := Hd (HS0.out W2.drew (fun b _ => rfl))
 obtain ⟨V0, eV0⟩ : ∃ V0, sev W2 n4 (.int .i64 0) (.int .i64 0) (.int .i64 0) (.int .i64 0) (.string ⟨#[]⟩) (.slice none 0 0) (.slice none 0 0) = V0 := ⟨_, rfl⟩
 obtain ⟨V1, eV1⟩ : ∃ V1, (V0.setCell ⟨n5, 0, none⟩ (.int .i64 c)).setCell ⟨n5, 1, none⟩ (.int .i64 a) = V1 := ⟨_, rfl⟩
 have hv1 := HV5.out V0 V1 eV0.symm _ _ eV1.symm
 have HV1 : Hid (Blk V1.drew n4 zeroC 26 ∧ Blk V1.drew n5 [.int .i64 c, .int .i64 a] 35 ∧ ∀ n w0, n ≤ n4 → n ≤ n5 → n ≤ W.heap.size → Below n w0 W → Below n w0 V1.drew) := ⟨hv1.1, hv1.2.1, fun n w0 k1 k2 k3 k4 => (hv1.2.2.2 n w0 k1 k2 k3 k4).drew⟩
 have HK2 := HS0.out V0.drew (fun b hb => (HV.out V0 eV0.symm).2.2.1 b hb)
 have HK3 := HS0.out V1.drew (fun b hb => hv1.2.2.1 b hb)
 have EV1 := Hd eV1
 have EV0 := Hd eV0
 clear hv1
 rw [← eV1, ← eV0] at HK3
 rw [← eV0] at HK2
 clear eV1 eV0
 unfold sev at HK2 HK3
 replace HK2 := Hd HK2
 replace HK3 := Hd HK3
 clear q0 q1 q2 q3 q4 q5 q6 f0 f1 f2 f3 f4 f5 f6 g0 g1 k0 k1 h4 h5 hb2 m0 m1 z2 hne
 obtain ⟨q0, q1, q2, q3, q4, q5, q6⟩ := HC4.out.cells7
 obtain ⟨f0, f1, f2, f3, f4, f5, f6⟩ := HC4.out.fz7
 have g0 := HC5.out.cell 0
 have g1 := HC5.out.cell 1
 simp only [List.getElem?_cons_zero, List.getElem?_cons_succ] at g0 g1
 have k0 := HC5.out.fz 0
 have k1 := HC5.out.fz 1
 go_wp2_with (fail)
 refine wp_region_noPanic ?_
 refine wp_region_held_drew (S := fun w' => w'.cell? ⟨W.heap.size, 0, none⟩ = some (.int .i64 c) ∧ w'.cell? ⟨W.heap.size, 1, none⟩ = some (.int .i64 a) ∧ w'.cell? ⟨W.heap.size + 1, 0, none⟩ = some (.int .i64 0) ∧ w'.cell? ⟨W.heap.size + 1, 1, none⟩ = some (.int .i64 0) ∧ w'.cell? ⟨W.heap.size + 1, 2, none⟩ = some (.int .i64 0) ∧ w'.cell? ⟨W.heap.size + 1, 3, none⟩ = some (.int .i64 0) ∧ w'.cell? ⟨W.heap.size + 1, 4, none⟩ = some (.string ⟨#[]⟩) ∧ w'.cell? ⟨W.heap.size + 1, 5, none⟩ = some (.slice none 0 0) ∧ w'.cell? ⟨W.heap.size + 1, 6, none⟩ = some (.slice none 0 0)) (by kernel_rfl) ?_ (fun hHeld => ?_)
 · with_reducible exact HK1.out
 refine wpAnyH_take (i := 0) (v := ?v0x1) rfl (by kernel_rfl) (by kernel_rfl) (by kernel_rfl) (fun _ _ _ h => h) (Or.inl ⟨by rfl, ?h0x1⟩) (by assumption) ?r0x1
 case h0x1 => (intro w hSw; (try dsimp only at hSw); first | (go_simp; done) | (go_simp; with_reducible rfl))
 try simp only [Act.put, List.setIfInBounds_toArray, List.set_cons_zero, List.set_cons_succ]
 refine wpAnyH_take (i := 1) (v := ?v1x2) rfl (by kernel_rfl) (by kernel_rfl) (by kernel_rfl) (fun _ _ _ h => h) (Or.inl ⟨by rfl, ?h1x2⟩) (by assumption) ?r1x2
 case h1x2 => (intro w hSw; (try dsimp only at hSw); first | (go_simp; done) | (go_simp; with_reducible rfl))
 try simp only [Act.put, List.setIfInBounds_toArray, List.set_cons_zero, List.set_cons_succ]
 refine wpAnyH_take (i := 2) (v := ?v2x3) rfl (by kernel_rfl) (by kernel_rfl) (by kernel_rfl) (fun _ _ _ h => h) (Or.inl ⟨by rfl, ?h2x3⟩) (by assumption) ?r2x3
 case h2x3 => (intro w hSw; (try dsimp only at hSw); first | (go_simp; done) | (go_simp; with_reducible rfl))
 try simp only [Act.put, List.setIfInBounds_toArray, List.set_cons_zero, List.set_cons_succ]
 refine wpAnyH_ready (rs := [3]) (by kernel_rfl) (by simp) ?_
 refine AllReadyH.cons rfl (fun K hK => ?_) AllReadyH.nil
 go_simp
 refine hK.out _ _ ?_ (fun hHeld => ?_)
 · with_reducible exact HK2.out
 clear hK K
 try simp only [Act.put, List.setIfInBounds_toArray, List.set_cons_zero, List.set_cons_succ]
 refine wpAnyH_ready (rs := [4]) (by kernel_rfl) (by simp) ?_
 refine AllReadyH.cons rfl (fun K hK => ?_) AllReadyH.nil
 go_simp
 refine hK.out _ _ ?_ (fun hHeld => ?_)
 · with_reducible exact HK3.out
 clear hK K
 try simp only [Act.put, List.setIfInBounds_toArray, List.set_cons_zero, List.set_cons_succ]
 refine wpAnyH_done (by kernel_rfl) ?_ _
 refine NoPanic.normal ?_
 go_wp2_with (fail)
 refine ⟨rfl, .panicking [{ v := stopV c a, recovered := true }], ?_, .tuple #[], results_none rfl _ _ _, rfl, rfl, ?_⟩
 · rw [List.cons.injEq]
   refine ⟨?_, rfl⟩
   cases c₀
   simp_all [stopV]
 · have h1 := HV1.out
   rw [← EV1.out, ← EV0.out] at h1
   unfold sev at h1
   with_reducible exact h1
end
section
open Go.RowKit Go.Maps
theorem catchL_idle (n4 n5 : Nat) (W : World) :
 CallsD Tryz.prog 125 #[.pointer (some ⟨n4, 0, none⟩), .pointer (some ⟨n5, 0, none⟩)] .returning W fun e u' w' => e = .returned (.tuple #[]) ∧ u' = .returning ∧ w' = W := by
 refine callsD_of_wpS Tryz.func125 rfl fun c₀ cs hu => ?_
 apply wpS_seq
 apply wpS_region
 simp [wpOpsS, go_sem, recoverD, hu, Tryz.ntmps125, Exit.thenS]
 simp only [Array.replicate_succ, Array.replicate_zero, List.push_toArray, List.append_toArray, List.nil_append, List.cons_append, List.setIfInBounds_toArray, List.set_cons_zero, List.set_cons_succ]
 refine wpS_post ?_
 go_wp2_with (fail)
 refine ⟨rfl, .returning, ?_, .tuple #[], results_none rfl _ _ _, rfl, rfl, rfl⟩
 cases c₀
 simp_all
theorem catchL_stop (n4 n5 : Nat) (W : World) (c a c0 a0 : Int) (x0 : Value) (h4 : Blk W n4 [x0] 23) (h5 : Blk W n5 [.int .i64 c0, .int .i64 a0] 35) (hne : n4 ≠ n5) :
 CallsD Tryz.prog 125 #[.pointer (some ⟨n4, 0, none⟩), .pointer (some ⟨n5, 0, none⟩)] (.panicking [{ v := stopV c a, recovered := false }]) W fun e u' w' => e = .returned (.tuple #[]) ∧ u' = .panicking [{ v := stopV c a, recovered := true }] ∧
  (Blk w' n4 [.slice none 0 0] 23 ∧ Blk w' n5 [.int .i64 c, .int .i64 a] 35 ∧ ∀ n w0, n ≤ n4 → n ≤ n5 → n ≤ W.heap.size → Below n w0 W → Below n w0 w') := by
 have hta : ∀ (w : World), (Instr.typeAssert (.iface 160 (.agg #[.int .i64 c, .int .i64 a])) 20 160 true).run Tryz.prog w = .ok (.tuple #[.agg #[.int .i64 c, .int .i64 a], .bool true]) w := fun _ => rfl
 have q0 := h4.cell 0
 have f0 := h4.fz 0
 have g0 := h5.cell 0
 have g1 := h5.cell 1
 have k0 := h5.fz 0
 have k1 := h5.fz 1
 refine callsD_of_wpS Tryz.func125 rfl fun c₀ cs hu => ?_
 apply wpS_seq
 apply wpS_region
 simp [wpOpsS, go_sem, recoverD, hu, Tryz.ntmps125, Exit.thenS, stopV]
 simp only [Array.replicate_succ, Array.replicate_zero, List.push_toArray, List.append_toArray, List.nil_append, List.cons_append, List.setIfInBounds_toArray, List.set_cons_zero, List.set_cons_succ]
 refine wpS_post ?_
 obtain ⟨W2, eW⟩ : ∃ W2, W.alloc (.cells #[.int .i64 c, .int .i64 a] 160) = W2 := ⟨_, rfl⟩
 obtain ⟨z2, hb2, m0⟩ := boxes1 eW
 have HN : Hid (n4 < W.heap.size ∧ n5 < W.heap.size ∧ n4 ≠ n5) := ⟨h4.lt, h5.lt, hne⟩
 have hn1 : ¬ n4 = n5 := hne
 have hn2 : ¬ n5 = n4 := fun e => hne e.symm
 obtain ⟨V0, eV0⟩ : ∃ V0, W2.setCell ⟨n4, 0, none⟩ (.slice none 0 0) = V0 := ⟨_, rfl⟩
 obtain ⟨V1, eV1⟩ : ∃ V1, (V0.setCell ⟨n5, 0, none⟩ (.int .i64 c)).setCell ⟨n5, 1, none⟩ (.int .i64 a) = V1 := ⟨_, rfl⟩
 have hB : Blk W2 W.heap.size [.int .i64 c, .int .i64 a] 160 := by rw [← eW]; exact Blk.new _ _ _
 have hB0 : Blk V0 W.heap.size [.int .i64 c, .int .i64 a] 160 := by rw [← eV0]; exact hB.other (by have := HN.out; omega) _ _
 have hB1 : Blk V1 W.heap.size [.int .i64 c, .int .i64 a] 160 := by rw [← eV1]; exact (hB0.other (by have := HN.out; omega) _ _).other (by have := HN.out; omega) _ _
 have h40 : Blk V0 n4 [.slice none 0 0] 23 := by
  rw [← eV0]
  exact (h4.below hb2).set 0 (.slice none 0 0)
 have h41 : Blk V1 n4 [.slice none 0 0] 23 := by rw [← eV1]; exact (h40.other hne _ _).other hne _ _
 have h50 : Blk V0 n5 [.int .i64 c0, .int .i64 a0] 35 := by rw [← eV0]; exact (h5.below hb2).other (fun e => hne e.symm) _ _
 have h51 : Blk V1 n5 [.int .i64 c, .int .i64 a] 35 := by
  have := (h50.set 0 (.int .i64 c)).set 1 (.int .i64 a)
  rw [← eV1]
  simpa using this
 have hlast : ∀ n w0, n ≤ n4 → n ≤ n5 → n ≤ W.heap.size → Below n w0 W → Below n w0 V1.drew := fun n w0 k1 k2 k3 k4 => by
  rw [← eV1, ← eV0]
  exact ((((k4.trans (hb2.mono k3)).setCell k1 _).setCell k2 _).setCell k2 _).drew
 have HK1 : Hid (W2.drew.cell? ⟨W.heap.size, 0, none⟩ = some (.int .i64 c) ∧ W2.drew.cell? ⟨W.heap.size, 1, none⟩ = some (.int .i64 a)) := ⟨hB.cell 0, hB.cell 1⟩
 have HK2 : V0.drew.cell? ⟨W.heap.size, 0, none⟩ = some (.int .i64 c) ∧ V0.drew.cell? ⟨W.heap.size, 1, none⟩ = some (.int .i64 a) := ⟨hB0.cell 0, hB0.cell 1⟩
 have HK3 : V1.drew.cell? ⟨W.heap.size, 0, none⟩ = some (.int .i64 c) ∧ V1.drew.cell? ⟨W.heap.size, 1, none⟩ = some (.int .i64 a) := ⟨hB1.cell 0, hB1.cell 1⟩
 have HV1 : Hid (Blk V1.drew n4 [.slice none 0 0] 23 ∧ Blk V1.drew n5 [.int .i64 c, .int .i64 a] 35 ∧ ∀ n w0, n ≤ n4 → n ≤ n5 → n ≤ W.heap.size → Below n w0 W → Below n w0 V1.drew) := ⟨h41, h51, hlast⟩
 have EV1 := Hd eV1
 have EV0 := Hd eV0
 rw [← eV1, ← eV0] at HK3
 rw [← eV0] at HK2
 clear eV1 eV0 hB0 hB1 h40 h41 h50 h51 hlast
 replace HK2 := Hd HK2
 replace HK3 := Hd HK3
 have HC4 := Hd (h4.below hb2)
 have HC5 := Hd (h5.below hb2)
 clear q0 f0 g0 g1 k0 k1 h4 h5 hb2 m0 z2 hne hB
 have q0 := HC4.out.cell 0
 have f0 := HC4.out.fz 0
 have g0 := HC5.out.cell 0
 have g1 := HC5.out.cell 1
 simp only [List.getElem?_cons_zero, List.getElem?_cons_succ] at q0 g0 g1
 have k0 := HC5.out.fz 0
 have k1 := HC5.out.fz 1
 go_wp2_with (fail)
 refine wp_region_noPanic ?_
 go_region_held3 (fun w' => w'.cell? ⟨W.heap.size, 0, none⟩ = some (.int .i64 c) ∧ w'.cell? ⟨W.heap.size, 1, none⟩ = some (.int .i64 a))
  (first | with_reducible exact HK1.out | with_reducible exact HK2.out | with_reducible exact HK3.out)
  (fail)
 refine NoPanic.normal ?_
 go_wp2_with (fail)
 refine ⟨rfl, .panicking [{ v := stopV c a, recovered := true }], ?_, .tuple #[], results_none rfl _ _ _, rfl, rfl, ?_⟩
 · rw [List.cons.injEq]
   refine ⟨?_, rfl⟩
   cases c₀
   simp_all [stopV]
 · have h1 := HV1.out
   rw [← EV1.out, ← EV0.out] at h1
   with_reducible exact h1
end
section
open Go.RowKit Go.Maps
def readX (s : Txt) : Ex × Int × Int :=
 if (scanOf s).2.1 = 0 then (match exprL (scanOf s).1 (primP (scanOf s).1 s.size 12) 5 0 with
  | .ok x k => if k < (scanOf s).1.length then (Ex.zero, 1, tkAt (scanOf s).1 s.size k) else (x, 0, 0)
  | .bad c a => (Ex.zero, c, a))
 else (Ex.zero, (scanOf s).2.1, (scanOf s).2.2)
theorem exprF_calls {w : World} {B : Nat} {T : List Tok} {E : Int} {tv : Value} {k dp ns : Nat} {p : Nat → Rs Ex} (hp : ReadsEx B T E tv dp ns 55 #[.pointer (some ⟨B, 0, none⟩), .int .i64 1] p) (h : Rdr w B T E tv k dp ns) :
 Calls Tryz.prog 54 #[.pointer (some ⟨B, 0, none⟩)] w (Does w B T E tv dp ns ExIs (p k)) := by
 obtain ⟨W1, eW⟩ : ∃ W1, w.alloc (.cells #[.int .i64 0, .int .i64 0, .int .i64 0, .int .i64 0, .string ⟨#[]⟩, .slice none 0 0, .slice none 0 0] 26) = W1 := ⟨_, rfl⟩
 have hB1 : Blk W1 w.heap.size zeroC 26 := by rw [← eW]; exact Blk.new _ _ _
 have hb1 : Below w.heap.size w W1 := by rw [← eW]; exact (Below.refl _ _).alloc (Nat.le_refl _) _
 have HN : Hid (w.heap.size < W1.heap.size) := hB1.lt
 have HNE : Hid (w.heap.size ≠ B) := by have := h.lt; unfold Hid; omega
 have HB1 := Hd hB1
 have HA1 := Hd (aside_below (B := B) hb1)
 have h1 := hp W1 k (h.below hb1)
 have H0 := Hd h
 clear hB1 hb1 h hp
 cases hr : p k with
 | bad c a =>
   rw [hr] at h1
   have H1 := Hd h1
   clear h1 hr
   go_enter Tryz.func54, Tryz.ntmps54
   go_wp2_with (fail)
   refine H1.out.mono ?_
   rintro e w2 ⟨ha, rfl, hlf⟩
   have HA := Hd (HA1.out.trans ha)
   have HLF := Hd hlf
   clear hlf ha
   go_wp2_with (fail)
   exact ⟨rfl, HA.out, rfl, HLF.out⟩
 | ok x k1 =>
   rw [hr] at h1
   have H1 := Hd h1
   clear h1 hr
   go_enter Tryz.func54, Tryz.ntmps54
   go_wp2_with (fail)
   refine H1.out.mono ?_
   rintro e w2 ⟨ha, v2, rfl, hr2, hx2⟩
   have HA2 := Hd (HA1.out.trans ha)
   have hB2 := HB1.out.aside ha HNE.out
   have HB2 := Hd hB2
   have HR2 := Hd hr2
   have HX2 := Hd hx2
   obtain ⟨vl, va, rfl, hvl, hva⟩ := hx2
   obtain ⟨pl, cl, rfl, _⟩ := hvl
   obtain ⟨pa, ca, rfl, _⟩ := hva
   obtain ⟨c0, c1, c2, c3, c4, c5, c6⟩ := Blk.cells7 hB2
   obtain ⟨f0, f1, f2, f3, f4, f5, f6⟩ := Blk.fz7 hB2
   clear ha hB2 hr2 H1 eW
   go_wp2_with (fail)
   refine bodyPost_ret (v := .agg #[.int .i64 x.kind, .int .i64 x.at_, .int .i64 x.num, .int .i64 x.ty, .string x.name, .slice pl x.lab.length cl, .slice pa x.kids.length ca]) ?_ rfl ?_
   · obtain ⟨q0, q1, q2, q3, q4, q5, q6⟩ := (Blk.sev (a := .int .i64 x.kind) (b := .int .i64 x.at_) (c := .int .i64 x.num) (d := .int .i64 x.ty) (e := .string x.name) (f := .slice pl x.lab.length cl) (g := .slice pa x.kids.length ca) HB2.out).cells7
     unfold sev at q0 q1 q2 q3 q4 q5 q6
     simp [results, Tryz.results54, go_sem, q0, q1, q2, q3, q4, q5, q6]
   · have hA9 := aside_sev (a := .int .i64 x.kind) (b := .int .i64 x.at_) (c := .int .i64 x.num) (d := .int .i64 x.ty) (e := .string x.name) (f := .slice pl x.lab.length cl) (g := .slice pa x.kids.length ca) HA2.out (Nat.le_refl _)
     exact ⟨hA9, _, rfl, H0.out.via hA9 (sev_block HNE.out) HR2.out, HX2.out.stays ((since_sev HN.out).trans (since_mono _ (Nat.le_of_lt HN.out)))⟩
def Reads (w : World) (r : Ex × Int × Int) (e : Ending) (w' : World) : Prop := ∃ v, e = .returned (.tuple #[v, .agg #[.int .i64 r.2.1, .int .i64 r.2.2]]) ∧ ExIs (since w.heap.size w') r.1 v ∧ Below w.heap.size w w'
theorem exIs_zero (W : World) : ExIs W Ex.zero (.agg #[.int .i64 0, .int .i64 0, .int .i64 0, .int .i64 0, .string ⟨#[]⟩, .slice none 0 0, .slice none 0 0]) := exIs_leaf W 0 0 0 0 _
theorem reads_bad {w W : World} {tmps : Array Value} {c a c0 a0 : Int} {x0 x1 x2 x3 x4 x5 x6 : Value} (ht4 : tmps[4]? = some (.pointer (some ⟨w.heap.size, 0, none⟩))) (ht5 : tmps[5]? = some (.pointer (some ⟨w.heap.size + 1, 0, none⟩)))
 (hb : Below w.heap.size w W) (h4 : Blk W w.heap.size [x0, x1, x2, x3, x4, x5, x6] 26) (h5 : Blk W (w.heap.size + 1) [.int .i64 c0, .int .i64 a0] 35) :
 Leaves Tryz.prog Tryz.f53 tmps (Reads w (Ex.zero, c, a)) [{ target := .fn (.func 135) #[.pointer (some ⟨w.heap.size, 0, none⟩), .pointer (some ⟨w.heap.size + 1, 0, none⟩)], args := #[] }] (.panicking [{ v := stopV c a, recovered := false }]) W := by
 refine leaves_cons (f := 135) (args := #[.pointer (some ⟨w.heap.size, 0, none⟩), .pointer (some ⟨w.heap.size + 1, 0, none⟩)]) (by simp) (by simp [go_sem]) ?_
 refine (catch_stop w.heap.size (w.heap.size + 1) W c a c0 a0 x0 x1 x2 x3 x4 x5 x6 h4 h5 (by omega)).mono ?_
 rintro e u' w'' ⟨rfl, rfl, g4, g5, g6⟩
 obtain ⟨q0, q1, q2, q3, q4, q5, q6⟩ := g4.cells7
 have r0 := g5.cell 0
 have r1 := g5.cell 1
 simp only [List.getElem?_cons_zero, List.getElem?_cons_succ] at r0 r1
 refine ⟨.tuple #[.agg #[.int .i64 0, .int .i64 0, .int .i64 0, .int .i64 0, .string ⟨#[]⟩, .slice none 0 0, .slice none 0 0], .agg #[.int .i64 c, .int .i64 a]], ?_, _, rfl, exIs_zero _, g6 _ _ (Nat.le_refl _) (by omega) hb.size hb⟩
 simp [results, Tryz.results53, go_sem, ht4, ht5, q0, q1, q2, q3, q4, q5, q6, r0, r1]
theorem reads_ok {w W : World} {tmps : Array Value} {c a : Int} {x : Ex} {x0 x1 x2 x3 x4 x5 x6 : Value} (ht4 : tmps[4]? = some (.pointer (some ⟨w.heap.size, 0, none⟩))) (ht5 : tmps[5]? = some (.pointer (some ⟨w.heap.size + 1, 0, none⟩)))
 (hb : Below w.heap.size w W) (h4 : Blk W w.heap.size [x0, x1, x2, x3, x4, x5, x6] 26) (h5 : Blk W (w.heap.size + 1) [.int .i64 c, .int .i64 a] 35) (hx : ExIs (since w.heap.size W) x (.agg #[x0, x1, x2, x3, x4, x5, x6])) :
 Leaves Tryz.prog Tryz.f53 tmps (Reads w (x, c, a)) [{ target := .fn (.func 135) #[.pointer (some ⟨w.heap.size, 0, none⟩), .pointer (some ⟨w.heap.size + 1, 0, none⟩)], args := #[] }] .returning W := by
 refine leaves_cons (f := 135) (args := #[.pointer (some ⟨w.heap.size, 0, none⟩), .pointer (some ⟨w.heap.size + 1, 0, none⟩)]) (by simp) (by simp [go_sem]) ?_
 refine (catch_idle w.heap.size (w.heap.size + 1) W).mono ?_
 rintro e u' w'' ⟨rfl, rfl, rfl⟩
 obtain ⟨q0, q1, q2, q3, q4, q5, q6⟩ := h4.cells7
 have r0 := h5.cell 0
 have r1 := h5.cell 1
 simp only [List.getElem?_cons_zero, List.getElem?_cons_succ] at r0 r1
 refine ⟨.tuple #[.agg #[x0, x1, x2, x3, x4, x5, x6], .agg #[.int .i64 c, .int .i64 a]], ?_, _, rfl, hx, hb⟩
 simp [results, Tryz.results53, go_sem, ht4, ht5, q0, q1, q2, q3, q4, q5, q6, r0, r1]
theorem reads_none {w W : World} {tmps : Array Value} {c a : Int} {x : Ex} {x0 x1 x2 x3 x4 x5 x6 : Value} (ht4 : tmps[4]? = some (.pointer (some ⟨w.heap.size, 0, none⟩))) (ht5 : tmps[5]? = some (.pointer (some ⟨w.heap.size + 1, 0, none⟩)))
 (hb : Below w.heap.size w W) (h4 : Blk W w.heap.size [x0, x1, x2, x3, x4, x5, x6] 26) (h5 : Blk W (w.heap.size + 1) [.int .i64 c, .int .i64 a] 35) (hx : ExIs (since w.heap.size W) x (.agg #[x0, x1, x2, x3, x4, x5, x6])) :
 Leaves Tryz.prog Tryz.f53 tmps (Reads w (x, c, a)) [] .returning W := by
 obtain ⟨q0, q1, q2, q3, q4, q5, q6⟩ := h4.cells7
 have r0 := h5.cell 0
 have r1 := h5.cell 1
 simp only [List.getElem?_cons_zero, List.getElem?_cons_succ] at r0 r1
 refine ⟨.tuple #[.agg #[x0, x1, x2, x3, x4, x5, x6], .agg #[.int .i64 c, .int .i64 a]], ?_, _, rfl, hx, hb⟩
 simp [results, Tryz.results53, go_sem, ht4, ht5, q0, q1, q2, q3, q4, q5, q6, r0, r1]
end
section
open Go.RowKit Go.Maps
theorem since_below {n : Nat} {w w' : World} (hb : Below w.heap.size w w') : Keeps (since n w) (since n w') := keeps_hide hb.size fun b h hp => ⟨hp, hb.block b h⟩
theorem sev_side (w : World) (n : Nat) (a b c d e f g : Value) : Aside1 n w (sev w n a b c d e f g) :=
 ((((((aside_set 0 a).trans (aside_set 1 b)).trans (aside_set 2 c)).trans (aside_set 3 d)).trans (aside_set 4 e)).trans (aside_set 5 f)).trans (aside_set 6 g)
theorem keep8 {n B : Nat} {w5 W8 : World} (hB : w5.heap.size ≤ B) (hs : w5.heap.size ≤ W8.heap.size) (h : ∀ b, n ≤ b → b < w5.heap.size → W8.heap[b]? = w5.heap[b]?) : Keeps (since n w5) (mask B W8) :=
 ⟨by rw [hide_size, mask_size]; exact hs, fun b o v hv => by
   rw [hide_cell] at hv
   split at hv
   · cases hv
   · rename_i hp
     have hb := cell_lt hv
     simp at hp
     rw [mask_cell, if_neg (by omega), World.cell?_of_block (a := ⟨b, o, none⟩) (h b (by omega) hb)]
     exact hv⟩
theorem readX_calls (s : Txt) (w : World) (ht : Tab w) : Calls Tryz.prog 53 #[.string s, .func (.func 54) #[] #[]] w (Reads w (readX s)) := by
 have hmf := mf_run
 have eg : ∀ args w, (callFunc 54 args).run Tryz.prog w = .ok (.enter 54 args) w := enters_at Tryz.func54 (by kernel_rfl) rfl
 obtain ⟨W2, eW⟩ : ∃ W2, (w.alloc (.cells #[.int .i64 0, .int .i64 0, .int .i64 0, .int .i64 0, .string ⟨#[]⟩, .slice none 0 0, .slice none 0 0] 26)).alloc (.cells #[.int .i64 0, .int .i64 0] 35) = W2 := ⟨_, rfl⟩
 obtain ⟨z2, hb2, m0, m1⟩ := boxes2 eW
 have hB2 : Blk W2 w.heap.size zeroC 26 := by rw [← eW]; exact (Blk.new _ _ _).below ((Below.refl _ _).alloc (Nat.le_refl _) _)
 have hC2 : Blk W2 (w.heap.size + 1) [.int .i64 0, .int .i64 0] 35 := by rw [← eW]; exact Blk.new2 _ _ _ _ _
 have HB2 := Hd hb2
 have HSC := Hd (scan_calls s W2)
 have HE2 := Hd hB2
 have HF2 := Hd hC2
 have HTB := Hd ht
 clear hb2 m0 m1 z2 hB2 hC2 ht
 by_cases hc : (scanOf s).2.1 = 0
 · obtain ⟨T, hT⟩ : ∃ T, scanOf s = (T, 0, 0) := by
    refine ⟨(scanOf s).1, ?_⟩
    have h1 : scanOf s = ((scanOf s).1, 0, (scanOf s).2.2) := by rw [← hc]
    have h2 := scanOf_zero h1
    rw [h2] at h1
    exact h1
   obtain ⟨hs4, hT6, hST⟩ := scanOf_stands hT
   have HRX : Hid (readX s = match exprL T (primP T s.size 12) 5 0 with
    | .ok x k => if k < T.length then (Ex.zero, 1, tkAt T s.size k) else (x, 0, 0)
    | .bad c a => (Ex.zero, c, a)) := by unfold Hid readX; rw [if_pos hc, hT]; try rfl
   rw [hT] at HSC
   have HST := Hd hST
   have HT6 := Hd hT6
   have HS4 := Hd hs4
   clear hc hT hs4 hT6 hST
   have HSC2 : Hid (Calls Tryz.prog 45 #[.string s] W2 fun e w' => ∃ y, e = .returned (.tuple #[y, .agg #[.int .i64 0, .int .i64 0]]) ∧ Toks w' T y ∧ Below W2.heap.size W2 w') := HSC.out
   clear HSC
   go_enter_defers Tryz.func53, Tryz.ntmps53
   go_wp2_with (fail)
   clear eW
   refine HSC2.out.mono ?_
   rintro e w3 ⟨y, rfl, hy, hb3⟩
   have HE3 := Hd (HE2.out.below hb3)
   have HF3 := Hd (HF2.out.below hb3)
   have HB3 := Hd (HB2.out.trans (hb3.mono HB2.out.size))
   have HCL := Hd (cloneTok_calls T y w3 hy HT6.out)
   have r0 := HF3.out.cell 0
   have r1 := HF3.out.cell 1
   simp only [List.getElem?_cons_zero, List.getElem?_cons_succ] at r0 r1
   have k0 := HF3.out.fz 0
   have k1 := HF3.out.fz 1
   have s7 := HF3.out.same (i := 0) rfl
   have s8 := HF3.out.same (i := 1) rfl
   obtain ⟨_, _, cy, py, rfl, _⟩ := hy.cells
   clear hb3 hy HSC2
   go_wp2_with (fail)
   refine HCL.out.mono ?_
   rintro e w5 ⟨v5, rfl, ht5, hb5⟩
   obtain ⟨_, _, c5, p5, rfl, _⟩ := ht5.cells
   have HTK := Hd ht5
   have HB35 : Hid (w3.heap.size ≤ w5.heap.size ∧ w.heap.size + 1 < w3.heap.size) := ⟨hb5.size, HF3.out.lt⟩
   replace ht5 := ht5.stays (hide_keeps _ _)
   obtain ⟨W6, eW6⟩ : ∃ W6, w5.alloc (.cells #[.slice p5 T.length c5, .int .i64 0, .int .i64 s.size, .int .i64 0, .int .i64 0] 164) = W6 := ⟨_, rfl⟩
   have hb6 : Below w5.heap.size w5 W6 := by rw [← eW6]; exact (Below.refl _ _).alloc (Nat.le_refl _) _
   have hB6 : Blk W6 w5.heap.size [.slice p5 T.length c5, .int .i64 0, .int .i64 s.size, .int .i64 0, .int .i64 0] 164 := by rw [← eW6]; exact Blk.new _ _ _
   have hb56 := hb5.trans (hb6.mono hb5.size)
   have HRD : Hid (Rdr W6 w5.heap.size T s.size (.slice p5 T.length c5) 0 0 0) := ⟨hB6, ht5.stays (mask_new (Nat.le_refl _) hb6), tab_mask (HTB.out.below (HB3.out.trans (hb5.mono HB3.out.size))) (Nat.le_refl _) hb6⟩
   have HW65 : Hid (w5.heap.size ≤ W6.heap.size) := hb6.size
   have HW6B : Hid (∀ b, b < w5.heap.size → W6.heap[b]? = w5.heap[b]?) := fun b h => hb6.block b h
   have HB6 := Hd (HB3.out.trans (hb56.mono HB3.out.size))
   have HE6 := Hd (HE3.out.below hb56)
   have HF6 := Hd (HF3.out.below hb56)
   have HN5 : Hid (w.heap.size + 1 < w5.heap.size) := by have h1 := HF3.out.lt; have h2 := hb5.size; unfold Hid; omega
   have HXC := Hd (exprF_calls (exprTop_calls level_calls (atoi_calls HST.out)) HRD.out)
   clear hb5 hb6 hb56 hB6 ht5 r0 r1 k0 k1 s7 s8 HCL
   cases hr : exprL T (primP T s.size 12) 5 0 with
   | bad c a =>
     rw [hr] at HXC HRX
     have HRY : Hid (readX s = (Ex.zero, c, a)) := HRX.out
     clear hr HRX
     go_wp2_with (fail)
     refine HXC.out.mono ?_
     rintro e w7 ⟨ha, rfl, hlf⟩
     have HB7 := Hd (below_of_aside HB6.out (Nat.le_of_lt (Nat.lt_trans (Nat.lt_succ_self _) HN5.out)) ha)
     have HE7 := Hd (HE6.out.aside ha (by have h1 := HN5.out; omega))
     have HF7 := Hd (HF6.out.aside ha (by have h1 := HN5.out; omega))
     clear ha hlf eW6
     go_wp2_with (fail)
     rw [HRY.out]
     exact reads_bad rfl rfl HB7.out HE7.out HF7.out
   | ok x k =>
     rw [hr] at HXC HRX
     have HRY : Hid (readX s = if k < T.length then (Ex.zero, 1, tkAt T s.size k) else (x, 0, 0)) := HRX.out
     clear hr HRX
     go_wp2_with (fail)
     refine HXC.out.mono ?_
     rintro e w7 ⟨ha, v7, rfl, hr7, hx7⟩
     have HB7 := Hd (below_of_aside HB6.out (Nat.le_of_lt (Nat.lt_trans (Nat.lt_succ_self _) HN5.out)) ha)
     have hE7 := HE6.out.aside ha (by have h1 := HN5.out; omega)
     have HE7 := Hd hE7
     have HF7 := Hd (HF6.out.aside ha (by have h1 := HN5.out; omega))
     have HX7 := Hd hx7
     have HA7 := Hd ha
     have HR7 := Hd hr7
     obtain ⟨vl, va, rfl, hvl, hva⟩ := hx7
     obtain ⟨pl, cl, rfl, _⟩ := hvl
     obtain ⟨pa, ca, rfl, _⟩ := hva
     obtain ⟨q0, q1, q2, q3, q4, q5, q6⟩ := hE7.cells7
     obtain ⟨f0, f1, f2, f3, f4, f5, f6⟩ := hE7.fz7
     obtain ⟨W8, eW8⟩ : ∃ W8, sev w7 w.heap.size (.int .i64 x.kind) (.int .i64 x.at_) (.int .i64 x.num) (.int .i64 x.ty) (.string x.name) (.slice pl x.lab.length cl) (.slice pa x.kids.length ca) = W8 := ⟨_, rfl⟩
     have hA8 : Aside1 w.heap.size w7 W8 := by rw [← eW8]; exact sev_side _ _ _ _ _ _ _ _ _
     have HB8 : Hid (Blk W8 w.heap.size [.int .i64 x.kind, .int .i64 x.at_, .int .i64 x.num, .int .i64 x.ty, .string x.name, .slice pl x.lab.length cl, .slice pa x.kids.length ca] 26) := by rw [← eW8]; exact Blk.sev hE7
     have hq8 : ∀ b, b ≠ w.heap.size → W8.heap[b]? = w7.heap[b]? := fun b hb => by rw [← eW8]; exact sev_block (fun e => hb e.symm)
     have HC8 : Hid (Blk W8 (w.heap.size + 1) [.int .i64 0, .int .i64 0] 35) := (hq8 _ (by omega)).trans HF7.out
     have HW8 : Hid (Below w.heap.size w W8) := ⟨hA8.os.trans HB7.out.os, hA8.tape.trans HB7.out.tape, hA8.output.trans HB7.out.output, Nat.le_trans HB7.out.size hA8.size, fun i hi => (hq8 i (by omega)).trans (HB7.out.block i hi)⟩
     have HX8 : Hid (ExIs (since w.heap.size W8) x (.agg #[.int .i64 x.kind, .int .i64 x.at_, .int .i64 x.num, .int .i64 x.ty, .string x.name, .slice pl x.lab.length cl, .slice pa x.kids.length ca])) := by
      have h1 := HX7.out.stays (show Keeps (since W6.heap.size w7) (since W6.heap.size W8) from keeps_hide hA8.size fun b hb hp => ⟨hp, hq8 b (by have h1 := HN5.out; have h2 := HRD.out.lt; simp at hp; omega)⟩)
      exact h1.stays (since_mono _ (by have h2 := HN5.out; have h3 := HRD.out.lt; omega))
     have HRD8 : Hid (Rdr W8 w5.heap.size T s.size (.slice p5 T.length c5) k 0 0) := ⟨(hq8 _ (by have h1 := HN5.out; omega)).trans hr7.blk,
      HTK.out.stays (keep8 (Nat.le_refl _) (by have h1 := HW65.out; have h2 := ha.size; have h3 := hA8.size; omega) fun b hb hb2 => (hq8 b (by have h1 := HB35.out; omega)).trans ((ha.block b (by have h1 := HW65.out; omega) (fun e => by simp at e; omega)).trans (HW6B.out b hb2))),
      tab_mask HTB.out (by have h1 := HN5.out; omega) HW8.out⟩
     have c1 := HRD8.out.c1
     have c0 := HRD8.out.c0
     unfold sev at eW8
     clear ha hr7 hE7 hA8 hq8 HXC eW6
     go_wp2_with (fail)
     clear eW8 q0 q1 q2 q3 q4 q5 q6 f0 f1 f2 f3 f4 f5 f6
     by_cases hk : k < T.length
     · have hki : (k : Int) < (T.length : Int) := by omega
       rw [if_pos hk] at HRY
       clear hk
       go_quiet (fail)
       obtain ⟨W9, e9⟩ : ∃ W9, W8.drewN nq = W9 := ⟨_, rfl⟩
       have hb9 : Below W8.heap.size W8 W9 := by rw [← e9]; exact below_drewN (Below.refl _ _) _
       have HFA := Hd (fail_calls (HRD8.out.below hb9) 1)
       have HB9 := Hd hb9
       rw [e9]
       clear e9 hb9 c0 c1
       go_wp2_with (fail)
       refine HFA.out.mono ?_
       rintro e w10 ⟨rfl, hb10⟩
       have hb810 := HB9.out.trans (hb10.mono HB9.out.size)
       have HZ1 := Hd (HW8.out.trans (hb810.mono HW8.out.size))
       have HZ2 := Hd (HB8.out.below hb810)
       have HZ3 := Hd (HC8.out.below hb810)
       clear hb10 hb810
       go_wp2_with (fail)
       rw [HRY.out]
       exact reads_bad rfl rfl HZ1.out HZ2.out HZ3.out
     · have hki : ¬ (k : Int) < (T.length : Int) := by omega
       rw [if_neg hk] at HRY
       clear hk
       go_quiet (fail)
       obtain ⟨W9, e9⟩ : ∃ W9, W8.drewN nq = W9 := ⟨_, rfl⟩
       have hb9 : Below W8.heap.size W8 W9 := by rw [← e9]; exact below_drewN (Below.refl _ _) _
       have HZ1 := Hd (HW8.out.trans (hb9.mono HW8.out.size))
       have HZ2 := Hd (HB8.out.below hb9)
       have HZ3 := Hd (HC8.out.below hb9)
       have HZX := Hd (HX8.out.stays (since_below hb9))
       rw [e9]
       clear e9 hb9 c0 c1
       obtain ⟨q0, q1, q2, q3, q4, q5, q6⟩ := HZ2.out.cells7
       obtain ⟨f0, f1, f2, f3, f4, f5, f6⟩ := HZ2.out.fz7
       have r0 := HZ3.out.cell 0
       have r1 := HZ3.out.cell 1
       simp only [List.getElem?_cons_zero, List.getElem?_cons_succ] at r0 r1
       have k0 := HZ3.out.fz 0
       have k1 := HZ3.out.fz 1
       have s0 := HZ2.out.same (i := 0) rfl
       have s1 := HZ2.out.same (i := 1) rfl
       have s2 := HZ2.out.same (i := 2) rfl
       have s3 := HZ2.out.same (i := 3) rfl
       have s4 := HZ2.out.same (i := 4) rfl
       have s5 := HZ2.out.same (i := 5) rfl
       have s6 := HZ2.out.same (i := 6) rfl
       have s7 := HZ3.out.same (i := 0) rfl
       have s8 := HZ3.out.same (i := 1) rfl
       have HK := Hd (show (W9.drew.cell? ⟨w.heap.size, 0, none⟩ = some (.int .i64 x.kind) ∧ W9.drew.cell? ⟨w.heap.size, 1, none⟩ = some (.int .i64 x.at_) ∧ W9.drew.cell? ⟨w.heap.size, 2, none⟩ = some (.int .i64 x.num) ∧ W9.drew.cell? ⟨w.heap.size, 3, none⟩ = some (.int .i64 x.ty) ∧ W9.drew.cell? ⟨w.heap.size, 4, none⟩ = some (.string x.name) ∧ W9.drew.cell? ⟨w.heap.size, 5, none⟩ = some (.slice pl x.lab.length cl) ∧ W9.drew.cell? ⟨w.heap.size, 6, none⟩ = some (.slice pa x.kids.length ca) ∧ W9.drew.cell? ⟨w.heap.size + 1, 0, none⟩ = some (.int .i64 0) ∧ W9.drew.cell? ⟨w.heap.size + 1, 1, none⟩ = some (.int .i64 0)) from ⟨q0, q1, q2, q3, q4, q5, q6, r0, r1⟩)
       go_wp2_with (fail)
       go_region_held3 (fun w' => w'.cell? ⟨w.heap.size, 0, none⟩ = some (.int .i64 x.kind) ∧ w'.cell? ⟨w.heap.size, 1, none⟩ = some (.int .i64 x.at_) ∧ w'.cell? ⟨w.heap.size, 2, none⟩ = some (.int .i64 x.num) ∧ w'.cell? ⟨w.heap.size, 3, none⟩ = some (.int .i64 x.ty) ∧ w'.cell? ⟨w.heap.size, 4, none⟩ = some (.string x.name) ∧ w'.cell? ⟨w.heap.size, 5, none⟩ = some (.slice pl x.lab.length cl) ∧ w'.cell? ⟨w.heap.size, 6, none⟩ = some (.slice pa x.kids.length ca) ∧ w'.cell? ⟨w.heap.size + 1, 0, none⟩ = some (.int .i64 0) ∧ w'.cell? ⟨w.heap.size + 1, 1, none⟩ = some (.int .i64 0))
        (with_reducible exact HK.out)
        (fail)
       all_goals go_wp2_with (fail)
       all_goals rw [HRY.out]
       all_goals exact reads_ok rfl rfl HZ1.out.drew HZ2.out HZ3.out (HZX.out.stays (since_below (below_drew1 _)))
 · have HRX : Hid (readX s = (Ex.zero, (scanOf s).2.1, (scanOf s).2.2)) := by unfold Hid readX; rw [if_neg hc]
   have hc1 : ((scanOf s).2.1 == 0) = false := beq_false_of_ne hc
   have hc2 : ((scanOf s).2.1 != 0) = true := by simp [hc]
   clear hc
   generalize (scanOf s).2.1 = c at *
   generalize (scanOf s).2.2 = a at *
   go_enter_defers Tryz.func53, Tryz.ntmps53
   go_wp2_with (fail)
   clear eW
   refine HSC.out.mono ?_
   rintro e w3 ⟨y, rfl, hy, hb3⟩
   have hF3 := HF2.out.below hb3
   have r0 := hF3.cell 0
   have r1 := hF3.cell 1
   simp only [List.getElem?_cons_zero, List.getElem?_cons_succ] at r0 r1
   have k0 := hF3.fz 0
   have k1 := hF3.fz 1
   obtain ⟨W4, eW4⟩ : ∃ W4, (w3.setCell ⟨w.heap.size + 1, 0, none⟩ (.int .i64 c)).setCell ⟨w.heap.size + 1, 1, none⟩ (.int .i64 a) = W4 := ⟨_, rfl⟩
   have HB4 : Hid (Blk W4 w.heap.size zeroC 26) := by rw [← eW4]; exact ((HE2.out.below hb3).other (by omega) _ _).other (by omega) _ _
   have HB5 : Hid (Blk W4 (w.heap.size + 1) [.int .i64 c, .int .i64 a] 35) := by rw [← eW4]; exact (hF3.set 0 (.int .i64 c)).set 1 (.int .i64 a)
   have HW4 : Hid (Below w.heap.size w W4) := by rw [← eW4]; exact ((HB2.out.trans (hb3.mono HB2.out.size)).setCell (show w.heap.size ≤ w.heap.size + 1 by omega) _).setCell (show w.heap.size ≤ w.heap.size + 1 by omega) _
   obtain ⟨_, _, cy, py, rfl, _⟩ := hy.cells
   have u0 := HB5.out.cell 0
   simp only [List.getElem?_cons_zero] at u0
   clear hb3 hy hF3
   go_wp2_with (fail)
   clear eW4 r0 r1 k0 k1 u0
   obtain ⟨q0, q1, q2, q3, q4, q5, q6⟩ := HB4.out.cells7
   obtain ⟨f0, f1, f2, f3, f4, f5, f6⟩ := HB4.out.fz7
   have r0 := HB5.out.cell 0
   have r1 := HB5.out.cell 1
   simp only [List.getElem?_cons_zero, List.getElem?_cons_succ] at r0 r1
   have k0 := HB5.out.fz 0
   have k1 := HB5.out.fz 1
   have s0 := HB4.out.same (i := 0) rfl
   have s1 := HB4.out.same (i := 1) rfl
   have s2 := HB4.out.same (i := 2) rfl
   have s3 := HB4.out.same (i := 3) rfl
   have s4 := HB4.out.same (i := 4) rfl
   have s5 := HB4.out.same (i := 5) rfl
   have s6 := HB4.out.same (i := 6) rfl
   have s7 := HB5.out.same (i := 0) rfl
   have s8 := HB5.out.same (i := 1) rfl
   have HK := Hd (show (W4.drew.cell? ⟨w.heap.size, 0, none⟩ = some (.int .i64 0) ∧ W4.drew.cell? ⟨w.heap.size, 1, none⟩ = some (.int .i64 0) ∧ W4.drew.cell? ⟨w.heap.size, 2, none⟩ = some (.int .i64 0) ∧ W4.drew.cell? ⟨w.heap.size, 3, none⟩ = some (.int .i64 0) ∧ W4.drew.cell? ⟨w.heap.size, 4, none⟩ = some (.string ⟨#[]⟩) ∧ W4.drew.cell? ⟨w.heap.size, 5, none⟩ = some (.slice none 0 0) ∧ W4.drew.cell? ⟨w.heap.size, 6, none⟩ = some (.slice none 0 0) ∧ W4.drew.cell? ⟨w.heap.size + 1, 0, none⟩ = some (.int .i64 c) ∧ W4.drew.cell? ⟨w.heap.size + 1, 1, none⟩ = some (.int .i64 a)) from ⟨q0, q1, q2, q3, q4, q5, q6, r0, r1⟩)
   go_wp2_with (fail)
   go_region_held3 (fun w' => w'.cell? ⟨w.heap.size, 0, none⟩ = some (.int .i64 0) ∧ w'.cell? ⟨w.heap.size, 1, none⟩ = some (.int .i64 0) ∧ w'.cell? ⟨w.heap.size, 2, none⟩ = some (.int .i64 0) ∧ w'.cell? ⟨w.heap.size, 3, none⟩ = some (.int .i64 0) ∧ w'.cell? ⟨w.heap.size, 4, none⟩ = some (.string ⟨#[]⟩) ∧ w'.cell? ⟨w.heap.size, 5, none⟩ = some (.slice none 0 0) ∧ w'.cell? ⟨w.heap.size, 6, none⟩ = some (.slice none 0 0) ∧ w'.cell? ⟨w.heap.size + 1, 0, none⟩ = some (.int .i64 c) ∧ w'.cell? ⟨w.heap.size + 1, 1, none⟩ = some (.int .i64 a))
    (with_reducible exact HK.out)
    (fail)
   all_goals go_wp2_with (fail)
   all_goals rw [HRX.out]
   all_goals exact reads_none rfl rfl HW4.out.drew HB4.out HB5.out (exIs_zero _)
end
section
open Go.RowKit
inductive TS where
 | go (k : Nat)
 | stop (c a : Int)
def TS.k (n : Nat) : TS → Nat
 | .go k => k
 | .stop _ _ => n
def TS.c : TS → Int
 | .go _ => 0
 | .stop c _ => c
def TS.a : TS → Int
 | .go _ => 0
 | .stop _ a => a
def TS.run {α : Type} (s : TS) (p : Nat → Rs α) : TS := match s with
 | .go k => (match p k with
   | .ok _ k' => .go k'
   | .bad c a => .stop c a)
 | .stop c a => .stop c a
def TS.tells {α : Type} (s : TS) (p : Nat → Rs α) (x : α) : Prop := ∀ k y k', s = .go k → p k = .ok y k' → x = y
def Goes {α : Type} (s : TS) (p : Nat → Rs α) (t : TS) (q : Nat → Rs α) : Prop := s.run p = t.run q ∧ ∀ k y k', s = .go k → p k = .ok y k' → ∃ j, t = .go j ∧ q j = .ok y k'
section
variable {α β : Type} {s t : TS} {p q : Nat → Rs α}
theorem Goes.refl (s : TS) (p : Nat → Rs α) : Goes s p s p := ⟨rfl, fun k y k' h e => ⟨k, h, e⟩⟩
theorem Goes.tells (h : Goes s p t q) {x : α} (hx : t.tells q x) : s.tells p x := fun k y k' e1 e2 => by
 obtain ⟨j, h1, h2⟩ := h.2 k y k' e1 e2
 exact hx j y k' h1 h2
theorem Goes.turn (h : Goes s p t q) {q' : Nat → Rs α} (e : ∀ j, t = .go j → q' j = q j) : Goes s p t q' := by
 obtain ⟨h1, h2⟩ := h
 refine ⟨h1.trans ?_, fun k y k' e1 e2 => ?_⟩
 · cases t with
   | go j => simp only [TS.run, e j rfl]
   | stop c a => rfl
 · obtain ⟨j, g1, g2⟩ := h2 k y k' e1 e2
   exact ⟨j, g1, by rw [e j g1]; exact g2⟩
theorem Goes.step {r : Nat → Rs β} {f : β → Nat → Rs α} (h : Goes s p t fun k => (r k).bind f) {x : β} (hx : t.tells r x) : Goes s p (t.run r) (f x) := by
 obtain ⟨h1, h2⟩ := h
 cases t with
 | stop c a =>
   refine ⟨h1, fun k y k' e1 e2 => ?_⟩
   obtain ⟨j, g1, _⟩ := h2 k y k' e1 e2
   cases g1
 | go j =>
   cases hr : r j with
   | ok y k' =>
     obtain rfl := hx j y k' rfl hr
     refine ⟨h1.trans ?_, fun k z k2 e1 e2 => ?_⟩
     · simp only [TS.run, hr, Rs.bind]
     · obtain ⟨i, g1, g2⟩ := h2 k z k2 e1 e2
       cases g1
       simp only [hr, Rs.bind] at g2
       exact ⟨k', by simp only [TS.run, hr], g2⟩
   | bad c a =>
     refine ⟨h1.trans ?_, fun k z k2 e1 e2 => ?_⟩
     · simp only [TS.run, hr, Rs.bind]
     · obtain ⟨i, g1, g2⟩ := h2 k z k2 e1 e2
       cases g1
       simp only [hr, Rs.bind] at g2
       cases g2
theorem Goes.stop {c a : Int} (h : Goes s p (.stop c a) q) (q' : Nat → Rs α) : Goes s p (.stop c a) q' := h.turn fun j e => by cases e
theorem Goes.fin {x : α} (h : Goes s p t fun k => .ok x k) : s.run p = t ∧ s.tells p x := by
 refine ⟨h.1.trans (by cases t <;> rfl), h.tells fun k y k' e1 e2 => ?_⟩
 cases e2
 rfl
theorem Goes.lost {c a : Int} (h : Goes s p (.stop c a) q) (x : α) : s.run p = .stop c a ∧ s.tells p x := (h.stop fun k => .ok x k).fin
end
section
variable {T : List Tok} {E : Int}
def TS.is (T : List Tok) (s : TS) (x : Txt) : Bool := tkIs T (s.k T.length) x
theorem tkIs_end (x : Txt) : tkIs T T.length x = false := by
 unfold tkIs
 rw [tkNext_ge (by omega)]
 rfl
theorem TS.is_go {s : TS} {x : Txt} (h : s.is T x = true) : ∃ k, s = .go k ∧ tkIs T k x = true := by
 cases s with
 | go k => exact ⟨k, rfl, h⟩
 | stop c a =>
   unfold TS.is TS.k at h
   rw [tkIs_end] at h
   cases h
def TS.up : TS → TS
 | .go k => .go (k + 1)
 | .stop c a => .stop c a
theorem Goes.yes {α : Type} {s t : TS} {p : Nat → Rs α} {x : Txt} {A B : Nat → Rs α} (h : Goes s p t fun k => if tkIs T k x then A k else B k) (hx : t.is T x = true) : Goes s p t A := h.turn fun j e => by
 subst e
 exact (if_pos hx).symm
theorem Goes.no {α : Type} {s t : TS} {p : Nat → Rs α} {x : Txt} {A B : Nat → Rs α} (h : Goes s p t fun k => if tkIs T k x then A k else B k) (hx : t.is T x = false) : Goes s p t B := h.turn fun j e => by
 subst e
 rw [if_neg]
 intro e
 have : tkIs T j x = false := hx
 rw [this] at e
 cases e
theorem Goes.next {α : Type} {s t : TS} {p : Nat → Rs α} {A : Nat → Rs α} (h : Goes s p t fun k => A (k + 1)) : Goes s p t.up A := by
 cases t with
 | go k =>
   obtain ⟨h1, h2⟩ := h
   refine ⟨h1, fun i y k' e1 e2 => ?_⟩
   obtain ⟨j, g1, g2⟩ := h2 i y k' e1 e2
   cases g1
   exact ⟨k + 1, rfl, g2⟩
 | stop c a => exact h.stop _
end
structure Txr (w : World) (B : Nat) (T : List Tok) (E : Int) (tv : Value) (s : TS) (bl al : Nat) : Prop where
 blk : w.heap[B]? = some (.cells #[tv, .int .i64 (s.k T.length : Nat), .int .i64 E, .int .i64 s.c, .int .i64 s.a, .int .i64 bl, .int .i64 al] 177 (0, 0))
 toks : Toks (mask B w) T tv
 fine : ∀ c a, s = .stop c a → c ≠ 0
section
variable {w w' : World} {B : Nat} {T : List Tok} {E : Int} {tv : Value} {s : TS} {bl al : Nat}
theorem Txr.lt (h : Txr w B T E tv s bl al) : B < w.heap.size := (Array.getElem?_eq_some_iff.1 h.blk).1
theorem Txr.c0 (h : Txr w B T E tv s bl al) : w.cell? ⟨B, 0, none⟩ = some tv := by simp [World.cell?, h.blk]
theorem Txr.c1 (h : Txr w B T E tv s bl al) : w.cell? ⟨B, 1, none⟩ = some (.int .i64 (s.k T.length : Nat)) := by simp [World.cell?, h.blk]
theorem Txr.c2 (h : Txr w B T E tv s bl al) : w.cell? ⟨B, 2, none⟩ = some (.int .i64 E) := by simp [World.cell?, h.blk]
theorem Txr.c3 (h : Txr w B T E tv s bl al) : w.cell? ⟨B, 3, none⟩ = some (.int .i64 s.c) := by simp [World.cell?, h.blk]
theorem Txr.c4 (h : Txr w B T E tv s bl al) : w.cell? ⟨B, 4, none⟩ = some (.int .i64 s.a) := by simp [World.cell?, h.blk]
theorem Txr.c6 (h : Txr w B T E tv s bl al) : w.cell? ⟨B, 6, none⟩ = some (.int .i64 al) := by simp [World.cell?, h.blk]
theorem Txr.fz (h : Txr w B T E tv s bl al) (i : Nat) : w.frozen? ⟨B, i, none⟩ = false := by simp [World.frozen?, h.blk]
theorem Txr.below (h : Txr w B T E tv s bl al) (hb : Below w.heap.size w w') : Txr w' B T E tv s bl al :=
 ⟨by rw [hb.block B h.lt]; exact h.blk, h.toks.stays (aside_below hb).keeps, h.fine⟩
theorem Txr.up (h : Txr w B T E tv s bl al) {x : Txt} (hs : s.is T x = true) : Txr (w.setCell ⟨B, 1, none⟩ (.int .i64 ((s.k T.length : Nat) + 1))) B T E tv s.up bl al := by
 obtain ⟨k, rfl, _⟩ := TS.is_go hs
 exact ⟨by simp [World.setCell, Array.getElem?_modify, h.blk, TS.k, TS.up, TS.c, TS.a], h.toks.stays (aside_set _ _).keeps, fun c a e => by cases e⟩
theorem Txr.upName (h : Txr w B T E tv s bl al) {k : Nat} (hs : s = .go k) : Txr (w.setCell ⟨B, 1, none⟩ (.int .i64 ((k : Int) + 1))) B T E tv (.go (k + 1)) bl al := by
 subst hs
 exact ⟨by simp [World.setCell, Array.getElem?_modify, h.blk, TS.k, TS.up, TS.c, TS.a], h.toks.stays (aside_set _ _).keeps, fun c a e => by cases e⟩
theorem Txr.setAl (h : Txr w B T E tv s bl al) (n : Nat) : Txr (w.setCell ⟨B, 6, none⟩ (.int .i64 n)) B T E tv s bl n :=
 ⟨by simp [World.setCell, Array.getElem?_modify, h.blk], h.toks.stays (aside_set _ _).keeps, h.fine⟩
theorem Txr.fault (h : Txr w B T E tv s bl al) {c a : Int} (hc : c ≠ 0) : Txr (((w.setCell ⟨B, 3, none⟩ (.int .i64 c)).setCell ⟨B, 4, none⟩ (.int .i64 a)).setCell ⟨B, 1, none⟩ (.int .i64 (T.length : Nat))) B T E tv (.stop c a) bl al :=
 ⟨by simp [World.setCell, Array.getElem?_modify, h.blk, TS.k, TS.c, TS.a], ((h.toks.stays (aside_set _ _).keeps).stays (aside_set _ _).keeps).stays (aside_set _ _).keeps, fun c' a' e => by cases e; exact hc⟩
theorem Txr.again (h : Txr w B T E tv s bl al) (hs : s.c ≠ 0) : Txr (w.setCell ⟨B, 1, none⟩ (.int .i64 (T.length : Nat))) B T E tv s bl al := by
 cases s with
 | go k => exact absurd rfl hs
 | stop c a => exact ⟨by simp [World.setCell, Array.getElem?_modify, h.blk, TS.k, TS.c, TS.a], h.toks.stays (aside_set _ _).keeps, h.fine⟩
theorem Txr.open' (h : Txr w B T E tv s bl al) : ∃ bt ot ct pt, tv = .slice pt T.length ct ∧ T.length ≤ ct ∧ ct ≤ 9223372036854775807 ∧ (0 < T.length → pt = some ⟨bt, ot, none⟩) ∧
 ∀ (i : Nat) (h : i < T.length), w.cell? ⟨bt, ot + i * 3, none⟩ = some (.int .i64 T[i].1) ∧ w.cell? ⟨bt, ot + i * 3 + 1, none⟩ = some (.int .i64 T[i].2.1) ∧ w.cell? ⟨bt, ot + i * 3 + 2, none⟩ = some (.string T[i].2.2) := by
 obtain ⟨p, c, e, h1, h2, h3⟩ := h.toks.stays (mask_keeps B w)
 unfold maxLen at h2
 rcases h3 with rfl | ⟨b, o, hp, h3⟩
 · exact ⟨0, 0, c, p, e, h1, by omega, fun h => absurd h (by simp), fun i h => absurd h (by simp)⟩
 · refine ⟨b, o, c, p, e, h1, by omega, fun _ => hp, fun i hi => ?_⟩
   obtain ⟨vs, ⟨us, us', e1, e2, us2, us3, e3, e4, e5⟩, g2, g3⟩ := h3 i hi
   have e2' : us = [.int .i64 T[i].1] := e2
   have e4' : us2 = [.int .i64 T[i].2.1] := e4
   have e5' : us3 = [.string T[i].2.2] := e5
   subst e2' e4' e5' e3 e1
   exact ⟨by simpa using g3 0 _ rfl, by simpa using g3 1 _ rfl, by simpa using g3 2 _ rfl⟩
theorem Txr.len (h : Txr w B T E tv s bl al) : T.length ≤ 9223372036854775807 := by
 obtain ⟨_, _, _, _, _, h1, h2, _⟩ := h.open'
 omega
end
def TDoes {α : Type} (w : World) (B : Nat) (T : List Tok) (E : Int) (tv : Value) (s : TS) (bl al : Nat) (X : World → α → Value → Prop) (p : Nat → Rs α) (e : Ending) (w' : World) : Prop :=
 Aside1 B w w' ∧ ∃ v x, e = .returned v ∧ Txr w' B T E tv (s.run p) bl al ∧ X (since w.heap.size w') x v ∧ s.tells p x
section
variable {w : World} {B : Nat} {T : List Tok} {E : Int} {tv : Value} {s : TS} {bl al : Nat}
theorem peek_calls (h : Txr w B T E tv s bl al) : Calls Tryz.prog 148 #[.pointer (some ⟨B, 0, none⟩)] w fun e w' => e = .returned (.agg #[.int .i64 (tkNext T (s.k T.length)).1, .int .i64 (tkNext T (s.k T.length)).2.1, .string (tkNext T (s.k T.length)).2.2]) ∧ Below w.heap.size w w' := by
 obtain ⟨W1, eW⟩ : ∃ W1, w.alloc (.cells #[.int .i64 0, .int .i64 0, .string ⟨#[]⟩] 153) = W1 := ⟨_, rfl⟩
 obtain ⟨z1, hW, m1⟩ := boxes1 eW
 have hfz : ∀ i, W1.frozen? ⟨w.heap.size, i, none⟩ = false := fun i => by rw [← eW]; exact frozen_new _ _ _ i
 have h' := h.below hW
 obtain ⟨bt, ot, ct, pt, rfl, hlt, hct, hpt, hcells⟩ := h'.open'
 have HW := Hd hW
 generalize hkk : s.k T.length = k at *
 have HX : Hid (∀ W, Below W1.heap.size W1 W → W.cell? ⟨B, 0, none⟩ = some (.slice pt T.length ct) ∧ W.cell? ⟨B, 1, none⟩ = some (.int .i64 k) ∧ W.cell? ⟨w.heap.size, 0, none⟩ = some (.int .i64 0) ∧ W.cell? ⟨w.heap.size, 1, none⟩ = some (.int .i64 0) ∧ W.cell? ⟨w.heap.size, 2, none⟩ = some (.string ⟨#[]⟩) ∧
  W.frozen? ⟨w.heap.size, 0, none⟩ = false ∧ W.frozen? ⟨w.heap.size, 1, none⟩ = false ∧ W.frozen? ⟨w.heap.size, 2, none⟩ = false) := fun W hb => by
  have hz : w.heap.size < W1.heap.size := by omega
  exact ⟨(hb.cell (p := ⟨B, 0, none⟩) h'.lt).trans h'.c0, (hb.cell (p := ⟨B, 1, none⟩) h'.lt).trans (by rw [← hkk]; exact h'.c1), (hb.cell (p := ⟨w.heap.size, 0, none⟩) hz).trans (m1 0), (hb.cell (p := ⟨w.heap.size, 1, none⟩) hz).trans (m1 1), (hb.cell (p := ⟨w.heap.size, 2, none⟩) hz).trans (m1 2),
   (hb.frozen (p := ⟨w.heap.size, 0, none⟩) hz).trans (hfz 0), (hb.frozen (p := ⟨w.heap.size, 1, none⟩) hz).trans (hfz 1), (hb.frozen (p := ⟨w.heap.size, 2, none⟩) hz).trans (hfz 2)⟩
 obtain ⟨a0, a1, a2, a3, a4, a5, a6, a7⟩ := HX.out W1 (Below.refl _ _)
 have HZ : Hid (w.heap.size ≤ w.heap.size) := Nat.le_refl _
 by_cases hk : k < T.length
 · obtain ⟨g0, g1, g2⟩ := hcells k hk
   obtain rfl := hpt (by omega)
   have HA := Hd (tkNext_lt hk)
   have hk' : (k : Int) < (T.length : Int) := by omega
   have hk0 : (0 : Int) ≤ (k : Int) := by omega
   generalize T[k] = t at *
   have HG : Hid (∀ W, Below W1.heap.size W1 W → W.cell? ⟨bt, ot + k * 3, none⟩ = some (.int .i64 t.1) ∧ W.cell? ⟨bt, ot + k * 3 + 1, none⟩ = some (.int .i64 t.2.1) ∧ W.cell? ⟨bt, ot + k * 3 + 2, none⟩ = some (.string t.2.2)) := fun W hb =>
    ⟨(hb.cell (cell_lt g0)).trans g0, (hb.cell (cell_lt g1)).trans g1, (hb.cell (cell_lt g2)).trans g2⟩
   clear hcells hpt h h' m1 z1 hW g0 g1 g2 hfz hkk
   go_enter Tryz.func148, Tryz.ntmps148
   go_wp2_with (fail)
   go_quiet (fail)
   go_wp2_with (fail)
   obtain ⟨W2, e2⟩ : ∃ W2, (W1.drewN nq).drew = W2 := ⟨_, rfl⟩
   have hb2 : Below W1.heap.size W1 W2 := by rw [← e2]; exact (below_drewN (Below.refl _ _) _).drew
   have HB2 := Hd hb2
   obtain ⟨b0, b1, b2, b3, b4, b5, b6, b7⟩ := HX.out W2 hb2
   obtain ⟨c0, c1, c2⟩ := HG.out W2 hb2
   clear hb2 a0 a1 a2 a3 a4 a5 a6 a7 eW
   refine wp_region_calm_tail 10 (by kernel_rfl) (by kernel_rfl) ?_
   rw [e2]
   clear e2
   simp only [List.take_succ_cons, List.take_zero, List.drop_succ_cons, List.drop_zero]
   repeat go_big_quiet_step (fail)
   refine wpQuiet_nil ?_
   go_wp2
   refine bodyPost_ret (v := .agg #[.int .i64 t.1, .int .i64 t.2.1, .string t.2.2]) ?_ rfl ⟨by rw [HA.out], ?_⟩
   · obtain ⟨q0, q1, q2⟩ := cells3 b2 b3 b4 (.int .i64 t.1) (.int .i64 t.2.1) (.string t.2.2)
     simp [results, Tryz.results148, go_sem, q0, q1, q2]
   · exact (((HW.out.trans (HB2.out.mono HW.out.size)).setCell HZ.out _).setCell HZ.out _).setCell HZ.out _
 · have HA := Hd (tkNext_ge hk)
   have hk' : ¬ (k : Int) < (T.length : Int) := by omega
   clear hcells hpt h h' m1 z1 hW hfz hkk
   go_enter Tryz.func148, Tryz.ntmps148
   go_wp2_with (fail)
   go_quiet (fail)
   obtain ⟨W2, e2⟩ : ∃ W2, (W1.drewN nq) = W2 := ⟨_, rfl⟩
   have hb2 : Below W1.heap.size W1 W2 := by rw [← e2]; exact below_drewN (Below.refl _ _) _
   have HB2 := Hd hb2
   obtain ⟨b0, b1, b2, b3, b4, b5, b6, b7⟩ := HX.out W2 hb2
   clear hb2 a0 a1 a2 a3 a4 a5 a6 a7 eW
   rw [e2]
   clear e2
   go_wp2_with (fail)
   refine bodyPost_ret (v := .agg #[.int .i64 0, .int .i64 0, .string ⟨#[]⟩]) ?_ rfl ⟨by rw [HA.out], ?_⟩
   · obtain ⟨q0, q1, q2⟩ := cells3 b2 b3 b4 (.int .i64 0) (.int .i64 0) (.string ⟨#[]⟩)
     simp [results, Tryz.results148, go_sem, q0, q1, q2]
   · exact (((HW.out.trans (HB2.out.mono HW.out.size)).setCell HZ.out _).setCell HZ.out _).setCell HZ.out _
theorem sees_calls (h : Txr w B T E tv s bl al) (x : Txt) : Calls Tryz.prog 152 #[.pointer (some ⟨B, 0, none⟩), .string x] w fun e w' => e = .returned (.bool (s.is T x)) ∧ Below w.heap.size w w' := by
 have HA := Hd (peek_calls h)
 have HT : Hid (s.is T x = (((tkNext T (s.k T.length)).1 == 3 || (tkNext T (s.k T.length)).1 == 4) && (tkNext T (s.k T.length)).2.2 == x)) := rfl
 clear h
 generalize tkNext T (s.k T.length) = t at *
 by_cases hx : t.2.2 = x
 · have hx1 : t.2.2.toList = x.toList := by rw [hx]
   have HS : Hid ((t.2.2 == x) = true) := by simp [Hid, hx]
   clear hx
   go_enter Tryz.func152, Tryz.ntmps152
   go_wp2_with (fail)
   refine HA.out.mono ?_
   rintro e w1 ⟨rfl, hb1⟩
   have HB := Hd hb1
   clear hb1
   go_wp2_with (fail)
   all_goals (
    go_ret
    refine ⟨?_, HB.out.alloc HB.out.size _⟩
    rw [HT.out, HS.out]
    exact ret_bool (by simp [*]))
 · have hx1 : ¬ t.2.2.toList = x.toList := fun e => hx (bytes_eq.1 (by simp [e]))
   have HS : Hid ((t.2.2 == x) = false) := by simp [Hid, hx]
   clear hx
   go_enter Tryz.func152, Tryz.ntmps152
   go_wp2_with (fail)
   refine HA.out.mono ?_
   rintro e w1 ⟨rfl, hb1⟩
   have HB := Hd hb1
   clear hb1
   go_wp2_with (fail)
   all_goals (
    go_ret
    refine ⟨?_, HB.out.alloc HB.out.size _⟩
    rw [HT.out, HS.out]
    exact ret_bool (by simp))
theorem skip_yes (h : Txr w B T E tv s bl al) (x : Txt) (hs : s.is T x = true) : Calls Tryz.prog 150 #[.pointer (some ⟨B, 0, none⟩), .string x] w fun e w' => e = .returned (.bool true) ∧ Aside1 B w w' ∧ Txr w' B T E tv s.up bl al := by
 have HI := Hd (sees_calls h x)
 rw [hs] at HI
 have HS := Hd hs
 have hw : ((s.k T.length : Nat) : Int) + 1 ≤ 9223372036854775807 := by
  obtain ⟨k, rfl, hk⟩ := TS.is_go hs
  have h1 := tkIs_lt hk
  have h2 := h.len
  show (k : Int) + 1 ≤ _
  omega
 have H := Hd h
 clear h hs
 go_enter Tryz.func150, Tryz.ntmps150
 go_wp2_with (fail)
 refine HI.out.mono ?_
 rintro e w1 ⟨rfl, hb1⟩
 have H1 := Hd (H.out.below hb1)
 have HB := Hd hb1
 have c1 := H1.out.c1
 have f1 := H1.out.fz 1
 clear hb1
 go_wp2_with (fail)
 go_ret
 exact ⟨rfl, (aside_below HB.out).trans (aside_set _ _), H1.out.up HS.out⟩
theorem skip_no (h : Txr w B T E tv s bl al) (x : Txt) (hs : s.is T x = false) : Calls Tryz.prog 150 #[.pointer (some ⟨B, 0, none⟩), .string x] w fun e w' => e = .returned (.bool false) ∧ Below w.heap.size w w' := by
 have HI := Hd (sees_calls h x)
 rw [hs] at HI
 clear h hs
 go_enter Tryz.func150, Tryz.ntmps150
 go_wp2_with (fail)
 refine HI.out.mono ?_
 rintro e w1 ⟨rfl, hb1⟩
 have HB := Hd hb1
 clear hb1
 go_wp2_with (fail)
 go_ret
 exact ⟨rfl, HB.out⟩
theorem wrong_calls (h : Txr w B T E tv s bl al) (c : Int) (hc : c ≠ 0) : Calls Tryz.prog 145 #[.pointer (some ⟨B, 0, none⟩), .int .i64 c] w fun e w' => e = .returned (.tuple #[]) ∧ Aside1 B w w' ∧ Txr w' B T E tv (s.run (α := Unit) fun k => failP T E c k) bl al := by
 have H := Hd h
 obtain ⟨bt, ot, ct, pt, rfl, hlt, hct, hpt, hcells⟩ := h.open'
 have h0 := h.c0
 have h1 := h.c1
 have h2 := h.c2
 have h3 := h.c3
 have h4 := h.c4
 have f1 := h.fz 1
 have f3 := h.fz 3
 have f4 := h.fz 4
 have HC := Hd hc
 cases s with
 | stop c' a' =>
   have hne : ¬ c' = 0 := h.fine c' a' rfl
   have HNE := Hd hne
   simp only [TS.k, TS.c, TS.a] at h1 h3 h4
   have hb3 : (c' == 0) = false := by simp [hne]
   clear h hcells hpt hc hne
   go_enter Tryz.func145, Tryz.ntmps145
   go_wp2_with (fail)
   go_end0
   exact ⟨rfl, aside_set _ _, H.out.again HNE.out⟩
 | go k =>
   simp only [TS.k, TS.c, TS.a] at h1 h3 h4
   by_cases hk : k < T.length
   · obtain ⟨g0, g1, g2⟩ := hcells k hk
     obtain rfl := hpt (by omega)
     have HA := Hd (tkAt_lt hk E)
     have hk' : (k : Int) < (T.length : Int) := by omega
     have hk0 : (0 : Int) ≤ (k : Int) := by omega
     generalize T[k] = t at *
     clear hcells hpt h hc
     have hbd : ∀ n m, Below w.heap.size w ((w.drewN n).drewN m) := fun n m => below_drewN (below_drewN (Below.refl _ _) _) _
     have HBD := Hd hbd
     have HCL : Hid (∀ W, Below w.heap.size w W → W.cell? ⟨B, 0, none⟩ = some (.slice (some ⟨bt, ot, none⟩) T.length ct) ∧ W.cell? ⟨B, 1, none⟩ = some (.int .i64 k) ∧ W.cell? ⟨B, 3, none⟩ = some (.int .i64 0) ∧ W.cell? ⟨B, 4, none⟩ = some (.int .i64 0) ∧ W.frozen? ⟨B, 1, none⟩ = false ∧ W.frozen? ⟨B, 3, none⟩ = false ∧ W.frozen? ⟨B, 4, none⟩ = false) := fun W hb => by
      have h' := H.out.below hb
      exact ⟨h'.c0, h'.c1, h'.c3, h'.c4, h'.fz 1, h'.fz 3, h'.fz 4⟩
     clear hbd
     go_enter Tryz.func145, Tryz.ntmps145
     go_wp2_with (fail)
     go_quiet (fail)
     go_wp2_with (fail)
     go_quiet (fail)
     go_wp2_with (fail)
     go_end0
     refine ⟨rfl, (aside_below (below_drewN (Below.refl _ _) _)).trans (((aside_set _ _).trans (aside_set _ _)).trans (aside_set _ _)), ?_⟩
     simp only [TS.run, failP, HA.out]
     exact (H.out.below (below_drewN (Below.refl _ _) _)).fault HC.out
   · have HA := Hd (tkAt_ge hk E)
     have hk' : ¬ (k : Int) < (T.length : Int) := by omega
     have HBD : Hid (∀ n, Below w.heap.size w (w.drewN n)) := fun n => below_drewN (Below.refl _ _) _
     have HCL : Hid (∀ W, Below w.heap.size w W → W.cell? ⟨B, 0, none⟩ = some (.slice pt T.length ct) ∧ W.cell? ⟨B, 1, none⟩ = some (.int .i64 k) ∧ W.cell? ⟨B, 3, none⟩ = some (.int .i64 0) ∧ W.cell? ⟨B, 4, none⟩ = some (.int .i64 0) ∧ W.frozen? ⟨B, 1, none⟩ = false ∧ W.frozen? ⟨B, 3, none⟩ = false ∧ W.frozen? ⟨B, 4, none⟩ = false) := fun W hb => by
      have h' := H.out.below hb
      exact ⟨h'.c0, h'.c1, h'.c3, h'.c4, h'.fz 1, h'.fz 3, h'.fz 4⟩
     clear hcells hpt h hc
     go_enter Tryz.func145, Tryz.ntmps145
     go_wp2_with (fail)
     go_quiet (fail)
     obtain ⟨W2, e2⟩ : ∃ W2, (w.drewN nq) = W2 := ⟨_, rfl⟩
     have hb2 : Below w.heap.size w W2 := by rw [← e2]; exact HBD.out _
     have HB2 := Hd hb2
     obtain ⟨d0, d1, d3, d4, u1, u3, u4⟩ := HCL.out W2 hb2
     clear hb2 h0 h1 h2 h3 h4 f1 f3 f4
     rw [e2]
     clear e2
     go_wp2_with (fail)
     go_end0
     refine ⟨rfl, (aside_below HB2.out).trans (((aside_set _ _).trans (aside_set _ _)).trans (aside_set _ _)), ?_⟩
     have := (H.out.below HB2.out).fault (a := E) HC.out
     simp only [TS.run, failP, HA.out]
     exact this
theorem need_calls (h : Txr w B T E tv s bl al) (x : Txt) : Calls Tryz.prog 149 #[.pointer (some ⟨B, 0, none⟩), .string x] w (TDoes w B T E tv s bl al (fun _ _ v => v = .tuple #[]) (mustP T E x)) := by
 cases hs : s.is T x with
 | true =>
   have HI := Hd (skip_yes h x hs)
   have HP : Hid (s.run (mustP T E x) = s.up) := by
    obtain ⟨k, rfl, hk⟩ := TS.is_go hs
    unfold Hid
    simp only [TS.run, mustP, hk, if_true, TS.up]
   clear h hs
   go_enter Tryz.func149, Tryz.ntmps149
   go_wp2_with (fail)
   refine HI.out.mono ?_
   rintro e w1 ⟨rfl, ha, hr⟩
   have HA := Hd ha
   have HR := Hd hr
   clear ha hr
   go_wp2_with (fail)
   refine bodyPost_ret (results_none rfl _ _ _) rfl ?_
   exact ⟨HA.out, _, (), rfl, by rw [HP.out]; exact HR.out, rfl, fun _ _ _ _ _ => rfl⟩
 | false =>
   have HI := Hd (skip_no h x hs)
   have HP : Hid (s.run (mustP T E x) = s.run (α := Unit) fun k => failP T E 1 k) := by
    unfold Hid
    cases s with
    | stop c a => rfl
    | go k =>
      have : tkIs T k x = false := hs
      simp [TS.run, mustP, this]
   have H := Hd h
   clear h hs
   go_enter Tryz.func149, Tryz.ntmps149
   go_wp2_with (fail)
   refine HI.out.mono ?_
   rintro e w1 ⟨rfl, hb1⟩
   have HF := Hd (wrong_calls (H.out.below hb1) 1 (by decide))
   have HB := Hd hb1
   clear hb1
   go_wp2_with (fail)
   refine HF.out.mono ?_
   rintro e w2 ⟨rfl, ha, hr⟩
   have HA := Hd ((aside_below HB.out).trans ha)
   have HR := Hd hr
   clear ha hr
   go_wp2_with (fail)
   refine bodyPost_ret (results_none rfl _ _ _) rfl ?_
   exact ⟨HA.out, _, (), rfl, by rw [HP.out]; exact HR.out, rfl, fun _ _ _ _ _ => rfl⟩
theorem tname_run {k : Nat} (hs : (tkNext T k).1 = 1) : (TS.go k).run (nameP T E) = .go (k + 1) := by simp [TS.run, nameP, hs]
theorem tname_kind {s : TS} (hs : (tkNext T (s.k T.length)).1 = 1) : ∃ k, s = .go k ∧ (tkNext T k).1 = 1 := by
 cases s with
 | go k => exact ⟨k, rfl, hs⟩
 | stop c a =>
   simp only [TS.k] at hs
   rw [tkNext_ge (by omega)] at hs
   cases hs
theorem tname_calls (h : Txr w B T E tv s bl al) : Calls Tryz.prog 151 #[.pointer (some ⟨B, 0, none⟩)] w (TDoes w B T E tv s bl al (fun _ x v => v = .string x) (nameP T E)) := by
 have HI := Hd (peek_calls h)
 have H := Hd h
 have hl := h.len
 by_cases hs : (tkNext T (s.k T.length)).1 = 1
 · obtain ⟨k, rfl, hs1⟩ := tname_kind hs
   clear hs
   have hs := hs1
   clear hs1
   simp only [TS.k] at HI
   have HP : Hid ((TS.go k).run (nameP T E) = .go (k + 1)) := tname_run hs
   have HQ : Hid (∀ y k', nameP T E k = .ok y k' → (tkNext T k).2.2 = y) := fun y k' e => by
    unfold nameP at e
    rw [if_pos hs] at e
    cases e
    rfl
   have hk : k < T.length := kind_lt (by omega)
   have hw : (k : Int) + 1 ≤ 9223372036854775807 := by omega
   generalize tkNext T k = t at *
   clear h
   go_enter Tryz.func151, Tryz.ntmps151
   go_wp2_with (fail)
   refine HI.out.mono ?_
   rintro e w1 ⟨rfl, hb1⟩
   obtain ⟨W2, eW⟩ : ∃ W2, w1.alloc (.cells #[.int .i64 1, .int .i64 t.2.1, .string t.2.2] 153) = W2 := ⟨_, rfl⟩
   obtain ⟨z2, hW, m1⟩ := boxes1 eW
   have j0 := m1 0
   have j2 := m1 2
   simp only [List.getElem?_toArray, List.getElem?_cons_zero, List.getElem?_cons_succ] at j0 j2
   have hb2 := hb1.trans (hW.mono hb1.size)
   have H2 := Hd (H.out.below hb2)
   have c1 := H2.out.c1
   have f1 := H2.out.fz 1
   simp only [TS.k] at c1
   have hne : w1.heap.size ≠ B := by have := H.out.lt; have := hb1.size; omega
   have jj2 : (W2.setCell ⟨B, 1, none⟩ (.int .i64 ((k : Int) + 1))).cell? ⟨w1.heap.size, 2, none⟩ = some (.string t.2.2) := by rw [World.cell?_setCell_other _ _ _ _ (by simp [hne])]; exact j2
   have HA := Hd (aside_below (B := B) hb2)
   clear hb1 hb2 hW z2 m1 hne
   rw [hs]
   go_wp2_with (fail)
   go_ret
   exact ⟨HA.out.trans (aside_set _ _), _, t.2.2, rfl, by rw [HP.out]; exact H2.out.upName rfl, rfl, fun k2 y k' e1 e2 => by cases e1; exact HQ.out y k' e2⟩
 · have HP : Hid (s.run (nameP T E) = s.run (α := Unit) fun k => failP T E 1 k) := by
    unfold Hid
    cases s with
    | stop c a => rfl
    | go k =>
      have : ¬ (tkNext T k).1 = 1 := hs
      simp [TS.run, nameP, this, failP]
   have HQ : Hid (s.tells (nameP T E) (⟨#[]⟩ : Txt)) := fun k y k' e1 e2 => by
    subst e1
    have : ¬ (tkNext T k).1 = 1 := hs
    simp [nameP, this, failP] at e2
   generalize tkNext T (s.k T.length) = t at *
   clear h
   go_enter Tryz.func151, Tryz.ntmps151
   go_wp2_with (fail)
   refine HI.out.mono ?_
   rintro e w1 ⟨rfl, hb1⟩
   obtain ⟨W2, eW⟩ : ∃ W2, w1.alloc (.cells #[.int .i64 t.1, .int .i64 t.2.1, .string t.2.2] 153) = W2 := ⟨_, rfl⟩
   obtain ⟨z2, hW, m1⟩ := boxes1 eW
   have j0 := m1 0
   simp only [List.getElem?_toArray, List.getElem?_cons_zero, List.getElem?_cons_succ] at j0
   have hb2 := hb1.trans (hW.mono hb1.size)
   have HF := Hd (wrong_calls (H.out.below hb2) 1 (by decide))
   have HA := Hd (aside_below (B := B) hb2)
   clear hb1 hb2 hW z2 m1
   go_wp2_with (fail)
   refine HF.out.mono ?_
   rintro e w3 ⟨rfl, ha, hr⟩
   have HA3 := Hd (HA.out.trans ha)
   have HR := Hd hr
   clear ha hr
   go_wp2_with (fail)
   go_ret
   exact ⟨HA3.out, _, ⟨#[]⟩, rfl, by rw [HP.out]; exact HR.out, rfl, HQ.out⟩
end
end
section
open Go.RowKit
theorem Rs.bind_assoc {α β γ : Type} (r : Rs α) (f : α → Nat → Rs β) (g : β → Nat → Rs γ) : (r.bind f).bind g = r.bind fun x k => (f x k).bind g := by
 cases r <;> rfl
def LO {α : Type} (Ec : Enc α) (ks : Nat) (et : TypeId) (n0 : Nat) (wo : World) (lv : Value) (xs : List α) : Prop :=
 ∃ vals, wo.ownsRow n0 et ks lv xs.length vals ∧ Rows Ec ks (hide (inList n0 lv) wo) xs vals
def Above (n : Nat) (w w' : World) : Prop := w.heap.size ≤ w'.heap.size ∧ ∀ b, n ≤ b → b < w.heap.size → w'.heap[b]? = w.heap[b]?
theorem Above.trans {n : Nat} {a b c : World} (h : Above n a b) (k : Above n b c) : Above n a c := ⟨Nat.le_trans h.1 k.1, fun i h1 h2 => (k.2 i h1 (Nat.lt_of_lt_of_le h2 h.1)).trans (h.2 i h1 h2)⟩
theorem above_below {n : Nat} {w w' : World} (h : Below w.heap.size w w') : Above n w w' := ⟨h.size, fun b _ hb => h.block b hb⟩
theorem above_aside {n B : Nat} {w w' : World} (hB : B < n) (h : Aside1 B w w') : Above n w w' := ⟨h.size, fun b h1 hb => h.block b hb (fun e => by simp at e; omega)⟩
theorem above_set {n b o : Nat} {w : World} (hb : b < n) (v : Value) : Above n w (w.setCell ⟨b, o, none⟩ v) := ⟨by simp [World.setCell], fun i h1 h2 => Below.heap_setCell _ _ _ _ (by simp; omega)⟩
section
variable {α : Type} {Ec : Enc α} {ks : Nat} {et : TypeId} {n0 : Nat} {wo wn : World} {lv : Value} {xs : List α}
theorem LO.step (hE : Stays Ec) (h : LO Ec ks et n0 wo lv xs) (ha : Above n0 wo wn) : LO Ec ks et n0 wn lv xs := by
 obtain ⟨vals, h1, h2⟩ := h
 have hk : World.ownsRow wn n0 et ks lv xs.length vals := by
  refine ⟨h1.1, ?_⟩
  rcases h1.2 with h3 | ⟨g, cap, cur, e0, e1, e2, e3⟩
  · exact .inl h3
  · refine .inr ⟨g, cap, cur, e0, e1, ?_, e3⟩
    rw [ha.2 g e1 (Array.getElem?_eq_some_iff.1 e2).1]
    exact e2
 refine ⟨vals, hk, Rows.stays hE (keeps_hide ha.1 fun b hb hp => ⟨hp, ha.2 b ?_ hb⟩) h2⟩
 simp [inList] at hp
 omega
theorem LO.done (hE : Stays Ec) (h : LO Ec ks et n0 wo lv xs) : SliceOf Ec ks (since n0 wo) xs lv := by
 obtain ⟨vals, h1, h2⟩ := h
 refine SliceOf.of_rows (own_hide h1 fun g hg => by simp; omega) (Rows.stays hE (keeps_hide (Nat.le_refl _) fun b hb hp => ⟨?_, rfl⟩) h2)
 simp [inList] at hp ⊢
 omega
theorem LO.slice (h : LO Ec ks et n0 wo lv xs) : ∃ p c, lv = .slice p xs.length c := by
 obtain ⟨vals, h1, _⟩ := h
 rcases h1.2 with ⟨rfl, e⟩ | ⟨g, cap, cur, rfl, _⟩
 · exact ⟨none, 0, by rw [e]⟩
 · exact ⟨_, _, rfl⟩
theorem LO.own (h : LO Ec ks et n0 wo lv xs) : ∀ g, lv.ownBlock = some g → n0 ≤ g ∧ g < wo.heap.size := fun g hg => by
 obtain ⟨vals, q1, _⟩ := h
 exact q1.lt g hg
theorem LO.nil (n0 : Nat) (wo : World) : LO Ec ks et n0 wo (.slice none 0 0) [] := ⟨[], World.ownsRow_nil _ _ _ _, rfl⟩
theorem LO.push (hE : Stays Ec) {vals us : List Value} {w5 : World} {v5 : Value} {x : α} {n1 : Nat}
 (hrows : Rows Ec ks (hide (inList n0 lv) wo) xs vals) (hx : Ec (since n1 wo) x us) (hus : us.length = ks) (hn1 : n0 ≤ n1) (hn2 : ∀ g, lv.ownBlock = some g → n0 ≤ g ∧ g < n1)
 (hown : w5.ownsRow n0 et ks v5 (xs.length + 1) (vals ++ us)) (hg : wo.grownBy w5 lv.ownBlock) (hv : v5.ownBlock = lv.ownBlock ∨ v5.ownBlock = some wo.heap.size) :
 LO Ec ks et n0 w5 v5 (xs ++ [x]) := by
 have hne : ∀ b, b < wo.heap.size → inList n0 lv b = false → inList n0 v5 b = false ∧ w5.heap[b]? = wo.heap[b]? := fun b hb hp => by
  simp [inList] at hp
  refine ⟨?_, hg.block b hb (fun e => hp.2 e.symm)⟩
  simp only [inList, Bool.or_eq_false_iff, decide_eq_false_iff_not, Nat.not_lt, beq_eq_false_iff_ne, ne_eq]
  refine ⟨hp.1, fun e => ?_⟩
  rcases hv with hv | hv
  · rw [hv] at e; exact hp.2 e
  · rw [hv] at e; simp at e; omega
 have hk : Keeps (hide (inList n0 lv) wo) (hide (inList n0 v5) w5) := keeps_hide hg.size hne
 have hk2 : Keeps (since n1 wo) (hide (inList n0 lv) wo) := keeps_hide (Nat.le_refl _) fun b hb hp => ⟨by
  simp only [inList, Bool.or_eq_false_iff, decide_eq_false_iff_not, Nat.not_lt, beq_eq_false_iff_ne, ne_eq]
  simp at hp
  exact ⟨by omega, fun e => by have := (hn2 b e).2; omega⟩, rfl⟩
 exact ⟨vals ++ us, by simpa using hown, Rows.append (Rows.stays hE hk hrows) (.one (hE _ _ _ _ (hk2.trans hk) hx) hus)⟩
theorem LO.first (hE : Stays Ec) {w1 : World} (hn : n0 ≤ w1.heap.size) {x : α} {us : List Value} (hx : Ec (since n0 w1) x us) (hus : us.length = ks) (hks : 0 < ks) :
 LO Ec ks et n0 (w1.alloc (.cells us.toArray et)) (.slice (some ⟨w1.heap.size, 0, none⟩) 1 1) [x] := by
 have hb : Below w1.heap.size w1 (w1.alloc (.cells us.toArray et)) := (Below.refl _ _).alloc (Nat.le_refl _) _
 refine ⟨us, ?_, .one (hE _ _ _ _ (keeps_hide hb.size fun b hb1 hp => ⟨?_, hb.block b hb1⟩) hx) hus⟩
 · have := World.ownsRow_lit (base := n0) (e := et) (size := ks) w1 us.toArray 1 hn (by unfold maxLen; omega) (by simp [hus])
   simpa using this
 · simp [inList, Value.ownBlock] at hp ⊢
   omega
end
theorem aside_grown {B n0 : Nat} {w wo w5 : World} {ob : Option Nat} (ha : Aside1 B w wo) (hg : wo.grownBy w5 ob) (ho : ∀ g, ob = some g → n0 ≤ g) (hn : w.heap.size ≤ n0) : Aside1 B w w5 :=
 ⟨hg.os.trans ha.os, hg.tape.trans ha.tape, hg.output.trans ha.output, Nat.le_trans ha.size hg.size, fun i hi hne =>
   (hg.block i (Nat.lt_of_lt_of_le hi ha.size) (fun e => by have := ho i e.symm; omega)).trans (ha.block i hi hne)⟩
theorem Txr.grown {w wo w5 : World} {B n0 : Nat} {T : List Tok} {E : Int} {tv : Value} {s : TS} {bl al : Nat} {ob : Option Nat} (ht : Toks (mask B w) T tv) (h : Txr wo B T E tv s bl al) (hB : B < n0) (ha : Aside1 B w w5) (hg : wo.grownBy w5 ob) (ho : ∀ g, ob = some g → n0 ≤ g) : Txr w5 B T E tv s bl al :=
 ⟨by rw [hg.block B h.lt (fun e => by have := ho B e.symm; omega)]; exact h.blk, ht.stays ha.keeps, h.fine⟩
theorem Txr.set {w wo : World} {B b o : Nat} {v : Value} {T : List Tok} {E : Int} {tv : Value} {s : TS} {bl al : Nat} (ht : Toks (mask B w) T tv) (h : Txr wo B T E tv s bl al) (hb : b ≠ B) (ha : Aside1 B w (wo.setCell ⟨b, o, none⟩ v)) : Txr (wo.setCell ⟨b, o, none⟩ v) B T E tv s bl al :=
 ⟨by rw [Below.heap_setCell _ _ _ _ (by simp; omega)]; exact h.blk, ht.stays ha.keeps, h.fine⟩
theorem aside_set_new {B b o : Nat} {w wo : World} (ha : Aside1 B w wo) (hb : w.heap.size ≤ b) (v : Value) : Aside1 B w (wo.setCell ⟨b, o, none⟩ v) :=
 ⟨ha.os, ha.tape, ha.output, by simp [World.setCell]; exact ha.size, fun i hi hne => (Below.heap_setCell _ _ _ _ (by simp; omega)).trans (ha.block i hi hne)⟩
end
section
open Go.RowKit
section
variable (T : List Tok) (E : Int)
def labTail (l : Lab) (k : Nat) : Rs Lab := (mustP T E tShut k).bind fun _ k3 => .ok l k3
def labRest (f : Nat) (xs : Lab) (k : Nat) : Rs Lab := (listGo T E (polP T E) 200 tSemi f xs k).bind (labTail T E)
def labLoop (f : Nat) (xs : Lab) (k : Nat) : Rs Lab := (polP T E k).bind fun x k' => labRest T E f (xs ++ [x]) k'
def rdRest (F : Pol → Nat → Rs Lab) (o : Txt) (f : Nat) (rs : List Txt) (k : Nat) : Rs Lab := (listGo T E (nameP T E) 6 tComma f rs k).bind fun rs k3 => F (o, rs) k3
theorem labelP_eq : labelP T E = fun k => (mustP T E tOpen k).bind fun _ k1 => if tkIs T k1 tShut then .ok [] (k1 + 1) else labLoop T E 200 [] k1 := by
 funext k
 unfold labelP
 congr 1
 funext _ k1
 split
 · rfl
 · unfold labLoop listP labRest
   rw [Rs.bind_assoc]
   rfl
theorem labLoop_eq (f : Nat) (xs : Lab) : labLoop T E f xs = fun k => (nameP T E k).bind fun o k1 => (mustP T E tColon k1).bind fun _ k2 => if (tkNext T k2).1 = 1 then (nameP T E k2).bind (fun r k3 => rdRest T E (fun x => labRest T E f (xs ++ [x])) o 6 [r] k3) else labRest T E f (xs ++ [(o, [])]) k2 := by
 funext k
 unfold labLoop polP
 rw [Rs.bind_assoc]
 congr 1
 funext o k1
 rw [Rs.bind_assoc]
 congr 1
 funext _ k2
 split
 · unfold listP rdRest
   rw [Rs.bind_assoc, Rs.bind_assoc]
   rfl
 · rfl
theorem labRest_eq (f : Nat) (xs : Lab) : labRest T E (f + 1) xs = fun k => if tkIs T k tSemi then (if xs.length = 200 then failP T E 2 k else labLoop T E f xs (k + 1)) else labTail T E xs k := by
 funext k
 unfold labRest listGo
 split
 · split
   · rfl
   · unfold labLoop
     rw [Rs.bind_assoc]
     rfl
 · rfl
theorem rdRest_eq (F : Pol → Nat → Rs Lab) (o : Txt) (f : Nat) (rs : List Txt) : rdRest T E F o (f + 1) rs = fun k => if tkIs T k tComma then (if rs.length = 6 then failP T E 2 k else (nameP T E (k + 1)).bind fun r k3 => rdRest T E F o f (rs ++ [r]) k3) else F (o, rs) k := by
 funext k
 unfold rdRest
 rw [listGo]
 split
 · split
   · rfl
   · rw [Rs.bind_assoc]
 · rfl
end
theorem Goes.kind {α : Type} {s t : TS} {p : Nat → Rs α} {T : List Tok} {A B : Nat → Rs α} (h : Goes s p t fun k => if (tkNext T k).1 = 1 then A k else B k) (hk : (tkNext T (t.k T.length)).1 = 1) : Goes s p t A := h.turn fun j e => by
 subst e
 exact (if_pos hk).symm
theorem Goes.kindNo {α : Type} {s t : TS} {p : Nat → Rs α} {T : List Tok} {A B : Nat → Rs α} (h : Goes s p t fun k => if (tkNext T k).1 = 1 then A k else B k) (hk : ¬ (tkNext T (t.k T.length)).1 = 1) : Goes s p t B := h.turn fun j e => by
 subst e
 exact (if_neg hk).symm
theorem Goes.fail {α : Type} {s t : TS} {p q q' : Nat → Rs α} {T : List Tok} {E c : Int} (h : Goes s p t q) (e : ∀ j, t = .go j → q j = failP T E c j) : Goes s p (t.run (α := Unit) fun k => failP T E c k) q' := by
 obtain ⟨h1, h2⟩ := h
 cases t with
 | go j =>
   have e := e j rfl
   refine ⟨h1.trans ?_, fun k y k' e1 e2 => ?_⟩
   · simp only [TS.run, e, failP]
   · obtain ⟨i, g1, g2⟩ := h2 k y k' e1 e2
     cases g1
     rw [e] at g2
     cases g2
 | stop c a =>
   refine ⟨h1, fun k y k' e1 e2 => ?_⟩
   obtain ⟨i, g1, g2⟩ := h2 k y k' e1 e2
   cases g1
theorem lbl_nil (W : World) : Lbl W [] (.slice none 0 0) := ⟨none, 0, rfl, Nat.le_refl _, by unfold maxLen; omega, .inl rfl⟩
theorem txt_stays : Stays txt := One.stays _
theorem tlabel_calls {w : World} {B : Nat} {T : List Tok} {E : Int} {tv : Value} {s : TS} {bl al : Nat} (h : Txr w B T E tv s bl al) :
 Calls Tryz.prog 73 #[.pointer (some ⟨B, 0, none⟩)] w (TDoes w B T E tv s bl al (fun W l v => Lbl W l v) (labelP T E)) := by
 obtain ⟨t0, hi, hz0, hz1, hz2⟩ := info_parts Tryz.info_policyP
 obtain ⟨u0, ui, uz0, uz1, uz2⟩ := info_parts Tryz.info_stringP
 have HB : Hid (B < w.heap.size) := h.lt
 have HTK := Hd h.toks
 have HLN := Hd h.len
 have HN := Hd (need_calls h tOpen)
 have HST : Hid (Stays pol) := pol_stays
 have HSX : Hid (Stays txt) := txt_stays
 clear h
 go_enter Tryz.func73, Tryz.ntmps73
 go_wp2_with (fail)
 refine HN.out.mono ?_
 rintro e w1 ⟨ha1, v1, x1, rfl, hr1, rfl, ht1⟩
 have HG1 : Hid (Goes s (labelP T E) (s.run (mustP T E tOpen)) fun k1 => if tkIs T k1 tShut then .ok [] (k1 + 1) else labLoop T E 200 [] k1) := by
  unfold Hid
  rw [labelP_eq]
  exact (Goes.refl s _).step ht1
 have HA1 := Hd ha1
 have HR1 := Hd hr1
 clear ha1 hr1 ht1 HN
 generalize s.run (mustP T E tOpen) = s1 at *
 cases hsh : s1.is T tShut with
 | true =>
   have HSK := Hd (skip_yes HR1.out tShut hsh)
   have HF := Hd ((HG1.out.yes hsh).next (A := fun k => .ok [] k)).fin
   clear hsh
   go_wp2_with (fail)
   refine HSK.out.mono ?_
   rintro e w2 ⟨rfl, ha2, hr2⟩
   have HA2 := Hd (HA1.out.trans ha2)
   have HR2 := Hd hr2
   clear ha2 hr2
   go_wp2_with (fail)
   go_ret
   exact ⟨HA2.out, _, [], rfl, by rw [HF.out.1]; exact HR2.out, lbl_nil _, HF.out.2⟩
 | false =>
   have HSK := Hd (skip_no HR1.out tShut hsh)
   have HG2 := Hd (HG1.out.no hsh)
   clear hsh HG1
   cases s1 with
   | stop c a =>
     have hc : ¬ c = 0 := HR1.out.fine c a rfl
     have hc1 : (c != 0) = true := bne_iff_ne.2 hc
     have hc2 : (c == 0) = false := beq_eq_false_iff_ne.2 hc
     have HF := Hd (HG2.out.lost [])
     clear hc
     go_wp2_with (fail)
     refine HSK.out.mono ?_
     rintro e w2 ⟨rfl, hb2⟩
     have HR2 := Hd (HR1.out.below hb2)
     have HA2 := Hd (HA1.out.trans (aside_below hb2))
     have c3 := HR2.out.c3
     simp only [TS.c] at c3
     clear hb2
     go_wp2_with (fail)
     go_ret
     exact ⟨HA2.out, _, [], rfl, by rw [HF.out.1]; exact HR2.out, lbl_nil _, HF.out.2⟩
   | go k1 =>
     go_wp2_with (fail)
     refine HSK.out.mono ?_
     rintro e w2 ⟨rfl, hb2⟩
     have HR2 := Hd (HR1.out.below hb2)
     have HA2 := Hd (HA1.out.trans (aside_below hb2))
     have c3 := HR2.out.c3
     simp only [TS.c] at c3
     clear hb2 HSK HR1 HA1
     go_wp2_with (fail)
     clear c3
     go_loopg [3] 200 (fun f lv ws => ∃ (xs : Lab) (t : TS) (wo : World) (vv : Value), vv = lv ∧ wo = ws ∧ Hid (0 < f ∧ xs.length + f = 200) ∧ Hid (Goes s (labelP T E) t (labLoop T E f xs)) ∧ Hid (LO pol 2 77 w.heap.size wo vv xs) ∧ Hid (Aside1 B w wo) ∧ Hid (Txr wo B T E tv t bl al))
     case atStart => exact ⟨[], .go k1, _, _, rfl, rfl, ⟨by decide, rfl⟩, HG2.out, LO.nil _ _, HA2.out, HR2.out⟩
     case round =>
      clear HG2 HA2 HR2
      obtain ⟨xs, t, wo, vv, rfl, rfl, HF, HG, HLO, HA, HR⟩ := hrel
      obtain ⟨fo, rfl⟩ : ∃ fo, gk = fo + 1 := ⟨gk - 1, by have := HF.out; omega⟩
      obtain ⟨p9, c9, rfl⟩ := HLO.out.slice
      have HNM := Hd (tname_calls HR.out)
      go_wp2_with (fail)
      refine HNM.out.mono ?_
      rintro e w3 ⟨ha3, v3, o, rfl, hr3, rfl, ht3⟩
      have HG3 : Hid (Goes s (labelP T E) (t.run (nameP T E)) fun k1 => (mustP T E tColon k1).bind fun _ k2 => if (tkNext T k2).1 = 1 then (nameP T E k2).bind (fun r k3 => rdRest T E (fun x => labRest T E (fo + 1) (xs ++ [x])) o 6 [r] k3) else labRest T E (fo + 1) (xs ++ [(o, [])]) k2) := by
       have := HG.out
       rw [labLoop_eq] at this
       exact this.step ht3
      obtain ⟨W3, eW⟩ : ∃ W3, w3.alloc (.cells #[.string o, .slice none 0 0] 77) = W3 := ⟨_, rfl⟩
      have hb3 : Below w3.heap.size w3 W3 := by rw [← eW]; exact (Below.refl _ _).alloc (Nat.le_refl _) _
      have hX : Blk W3 w3.heap.size [.string o, .slice none 0 0] 77 := by rw [← eW]; exact Blk.new _ _ _
      have z1 := hX.same (i := 1) rfl
      have f1 := hX.fz 1
      have d0 := hX.cell 0
      have d1 := hX.cell 1
      simp only [List.getElem?_cons_zero, List.getElem?_cons_succ] at d0 d1
      have HX := Hd hX
      have HA3 := Hd ((HA.out.trans ha3).trans (aside_below hb3))
      have HAI := Hd (ha3.trans (aside_below hb3))
      have HR3 := Hd (hr3.below hb3)
      have HNB : Hid (B < w3.heap.size) := Nat.lt_of_lt_of_le HR.out.lt ha3.size
      have HSZ : Hid (wo.heap.size ≤ w3.heap.size ∧ w.heap.size ≤ w3.heap.size) := ⟨ha3.size, Nat.le_trans HA.out.size ha3.size⟩
      have HND := Hd (need_calls HR3.out tColon)
      clear ha3 hr3 ht3 hb3 hX HNM HG
      generalize t.run (nameP T E) = t3 at *
      go_wp2_with (fail)
      refine HND.out.mono ?_
      rintro e w4 ⟨ha4, v4, x4, rfl, hr4, rfl, ht4⟩
      have HG4 := Hd (HG3.out.step ht4)
      have HR4 := Hd hr4
      have HA4 := Hd (HA3.out.trans ha4)
      have HAI4 := Hd (HAI.out.trans ha4)
      have HX4 : Hid (Blk w4 w3.heap.size [.string o, .slice none 0 0] 77) := HX.out.aside ha4 (by have := HNB.out; omega)
      have HPK := Hd (peek_calls HR4.out)
      clear ha4 hr4 ht4 eW z1 f1 d0 d1 HG3 HND HX HR3 HA3 HAI
      generalize t3.run (mustP T E tColon) = t4 at *
      go_wp2_with (fail)
      refine HPK.out.mono ?_
      rintro e w5 ⟨rfl, hb5⟩
      have HR5 := Hd (HR4.out.below hb5)
      have HA5 := Hd (HA4.out.trans (aside_below hb5))
      have HAI5 := Hd (HAI4.out.trans (aside_below hb5))
      have HX5 := Hd (HX4.out.below hb5)
      have HN5 : Hid (w3.heap.size < w5.heap.size ∧ B < w5.heap.size) := ⟨HX5.out.lt, HR5.out.lt⟩
      clear hb5 HR4 HA4 HAI4 HX4 HPK
      generalize hpk : tkNext T (t4.k T.length) = tk at *
      have HTK4 := Hd hpk
      clear hpk
      have hfd : ∀ (a b : Int) (c : Txt) (w : World), (Instr.field 153 (.agg #[.int .i64 a, .int .i64 b, .string c]) 0).run Tryz.prog w = .ok (.int .i64 a) w := fun _ _ _ _ => rfl
      go_upto_if 25 with fail
      clear hfd
      go_cut [] from 17 (fun wc => ∃ (t5 : TS) (rs : List Txt) (rv : Value), Hid (Goes s (labelP T E) t5 (labRest T E (fo + 1) (xs ++ [(o, rs)]))) ∧ Hid (Txr wc B T E tv t5 bl al) ∧ Hid (Aside1 B w wc) ∧ Hid (Aside1 B wo wc) ∧ Hid (Blk wc w3.heap.size [.string o, rv] 77) ∧ Hid (Strs (since w5.heap.size wc) rs rv) ∧ Hid (w5.heap.size ≤ wc.heap.size))
      case first =>
       by_cases hk : tk.1 = 1
       · have HG5 := Hd (HG4.out.kind (by rw [HTK4.out]; exact hk))
         have hk1 : (tk.1 == 1) = true := by simp [hk]
         have HNM := Hd (tname_calls HR5.out)
         clear hk
         go_wp2_with (fail)
         refine HNM.out.mono ?_
         rintro e w6 ⟨ha6, v6, r, rfl, hr6, rfl, ht6⟩
         have HG6 := Hd (HG5.out.step ht6)
         obtain ⟨W7, eW7⟩ : ∃ W7, w6.alloc (.cells #[.string r] 9) = W7 := ⟨_, rfl⟩
         have hb7 : Below w6.heap.size w6 W7 := by rw [← eW7]; exact (Below.refl _ _).alloc (Nat.le_refl _) _
         have hL7 : LO txt 1 9 w5.heap.size W7 (.slice (some ⟨w6.heap.size, 0, none⟩) 1 1) [r] := by
          rw [← eW7]
          exact LO.first HSX.out ha6.size (x := r) (us := [.string r]) rfl rfl (by decide)
         have HX7 : Hid (Blk W7 w3.heap.size [.string o, .slice none 0 0] 77) := (HX5.out.aside ha6 (by have := HNB.out; omega)).below hb7
         have d1 := HX7.out.cell 1
         have f1 := HX7.out.fz 1
         simp only [List.getElem?_cons_zero, List.getElem?_cons_succ] at d1
         have HR7 := Hd (hr6.below hb7)
         have HA7 := Hd ((HA5.out.trans ha6).trans (aside_below hb7))
         have HAI7 := Hd ((HAI5.out.trans ha6).trans (aside_below hb7))
         have HL7 := Hd hL7
         have HSZ7 : Hid (w5.heap.size ≤ W7.heap.size) := Nat.le_trans ha6.size hb7.size
         clear ha6 hr6 ht6 hb7 hL7 HG5 HG4 HNM HR5 HA5 HAI5 HX5
         generalize t4.run (nameP T E) = t6 at *
         go_wp2_with (fail)
         clear d1 f1 eW7
         go_loopg [] 6 (fun f ws => ∃ (rs : List Txt) (ti : TS) (rv : Value) (wi : World), wi = ws ∧ Hid (0 < f ∧ rs.length + f = 7) ∧ Hid (Goes s (labelP T E) ti (rdRest T E (fun x => labRest T E (fo + 1) (xs ++ [x])) o f rs)) ∧ Hid (Txr wi B T E tv ti bl al) ∧ Hid (Aside1 B w wi) ∧ Hid (Aside1 B wo wi) ∧ Hid (Blk wi w3.heap.size [.string o, rv] 77) ∧ Hid (LO txt 1 9 w5.heap.size wi rv rs) ∧ Hid (w5.heap.size ≤ wi.heap.size))
         case atStart =>
          have hAW : Aside1 B w (W7.setCell ⟨w3.heap.size, 1, none⟩ (.slice (some ⟨w6.heap.size, 0, none⟩) 1 1)) := aside_set_new HA7.out HSZ.out.2 _
          exact ⟨[r], t6, _, _, rfl, ⟨by decide, rfl⟩, HG6.out, HR7.out.set HTK.out (by have := HNB.out; omega) hAW, hAW, aside_set_new HAI7.out HSZ.out.1 _, HX7.out.set 1 _, HL7.out.step HSX.out (above_set HN5.out.1 _), by simp only [World.setCell, Array.size_modify]; exact HSZ7.out⟩
         case round =>
          clear HG6 HR7 HA7 HAI7 HL7 HX7 HSZ7
          obtain ⟨rs, ti, rv, wi, rfl, HF7, HG7, HRi, HAi, HAIi, HXi, HLi, HSi⟩ := hrel
          obtain ⟨f, rfl⟩ : ∃ f, gk = f + 1 := ⟨gk - 1, by have := HF7.out; omega⟩
          obtain ⟨pi, ci, rfl⟩ := HLi.out.slice
          have HSE := Hd (sees_calls HRi.out tComma)
          have HGE : Hid (Goes s (labelP T E) ti fun k => if tkIs T k tComma then (if rs.length = 6 then failP T E 2 k else (nameP T E (k + 1)).bind fun r k3 => rdRest T E (fun x => labRest T E (fo + 1) (xs ++ [x])) o f (rs ++ [r]) k3) else labRest T E (fo + 1) (xs ++ [(o, rs)]) k) := by
           have := HG7.out
           rw [rdRest_eq] at this
           exact this
          cases hs : ti.is T tComma with
          | false =>
            rw [hs] at HSE
            have HGN := Hd (HGE.out.no hs)
            clear hs
            go_wp2_with (fail)
            refine HSE.out.mono ?_
            rintro e w8 ⟨rfl, hb8⟩
            have HR8 := Hd (HRi.out.below hb8)
            have HA8 := Hd (HAi.out.trans (aside_below hb8))
            have HAI8 := Hd (HAIi.out.trans (aside_below hb8))
            have HX8 := Hd (HXi.out.below hb8)
            have HS8 := Hd ((HLi.out.step HSX.out (above_below hb8)).done HSX.out)
            have HZ8 : Hid (w5.heap.size ≤ w8.heap.size) := Nat.le_trans HSi.out hb8.size
            clear hb8
            go_wp2_with (fail)
            go_meet
            exact ⟨ti, rs, _, HGN, HR8, HA8, HAI8, HX8, HS8, HZ8⟩
          | true =>
            rw [hs] at HSE
            have HGY := Hd (HGE.out.yes hs)
            have HIS := Hd hs
            clear hs
            by_cases h6 : rs.length = 6
            · have HFL : Hid (∀ q', Goes s (labelP T E) (ti.run (α := Unit) fun k => failP T E 2 k) q') := fun q' => HGY.out.fail fun j _ => if_pos h6
              have h6i : (6 : Int) ≤ (rs.length : Int) := by omega
              clear h6
              go_wp2_with (fail)
              refine HSE.out.mono ?_
              rintro e w8 ⟨rfl, hb8⟩
              have HR8 := Hd (HRi.out.below hb8)
              have HA8 := Hd (HAi.out.trans (aside_below hb8))
              have HAI8 := Hd (HAIi.out.trans (aside_below hb8))
              have HX8 := Hd (HXi.out.below hb8)
              have d1 := HX8.out.cell 1
              simp only [List.getElem?_cons_zero, List.getElem?_cons_succ] at d1
              have HL8 := Hd (HLi.out.step HSX.out (above_below hb8))
              have HZ8 : Hid (w5.heap.size ≤ w8.heap.size) := Nat.le_trans HSi.out hb8.size
              have HW := Hd (wrong_calls HR8.out 2 (by decide))
              clear hb8
              go_wp2_with (fail)
              refine HW.out.mono ?_
              rintro e w9 ⟨rfl, ha9, hr9⟩
              have HR9 := Hd hr9
              have HA9 := Hd (HA8.out.trans ha9)
              have HAI9 := Hd (HAI8.out.trans ha9)
              have HX9 := Hd (HX8.out.aside ha9 (by have := HNB.out; omega))
              have HS9 := Hd ((HL8.out.step HSX.out (above_aside HN5.out.2 ha9)).done HSX.out)
              have HZ9 : Hid (w5.heap.size ≤ w9.heap.size) := Nat.le_trans HZ8.out ha9.size
              clear ha9 hr9
              go_wp2_with (fail)
              go_meet
              exact ⟨_, rs, _, HFL.out _, HR9, HA9, HAI9, HX9, HS9, HZ9⟩
            · have HGN : Hid (Goes s (labelP T E) ti.up fun k => (nameP T E k).bind fun r k3 => rdRest T E (fun x => labRest T E (fo + 1) (xs ++ [x])) o f (rs ++ [r]) k3) := by
               have h1 := HGY.out
               simp only [if_neg h6] at h1
               exact h1.next (A := fun k => (nameP T E k).bind fun r k3 => rdRest T E (fun x => labRest T E (fo + 1) (xs ++ [x])) o f (rs ++ [r]) k3)
              have HRL : Hid (rs.length < 6) := by have := HF7.out; unfold Hid; omega
              have H6D : Hid (decide ((6 : Int) ≤ (rs.length : Int)) = false) := decide_eq_false (by have := HRL.out; omega)
              clear h6
              have hw : ((ti.k T.length : Nat) : Int) + 1 ≤ 9223372036854775807 := by
               obtain ⟨k, rfl, hk⟩ := TS.is_go HIS.out
               have h1 := tkIs_lt hk
               have h2 := HLN.out
               show (k : Int) + 1 ≤ _
               omega
              go_wp2_with (fail)
              refine HSE.out.mono ?_
              rintro e w8 ⟨rfl, hb8⟩
              have HR8 := Hd (HRi.out.below hb8)
              have HX8 := Hd (HXi.out.below hb8)
              have d1 := HX8.out.cell 1
              simp only [List.getElem?_cons_zero, List.getElem?_cons_succ] at d1
              have c1 := HR8.out.c1
              have f1 := HR8.out.fz 1
              obtain ⟨W9, eW9⟩ : ∃ W9, w8.setCell ⟨B, 1, none⟩ (.int .i64 (((ti.k T.length : Nat) : Int) + 1)) = W9 := ⟨_, rfl⟩
              have hs9 : Aside1 B w8 W9 := by rw [← eW9]; exact aside_set _ _
              have hr9 : Txr W9 B T E tv ti.up bl al := by rw [← eW9]; exact HR8.out.up HIS.out
              have hbd : Below W9.heap.size W9 W9.drew := (Below.refl _ _).drew
              have HA9 : Hid (Aside1 B w W9.drew) := ((HAi.out.trans (aside_below hb8)).trans hs9).trans (aside_below hbd)
              have HAI9 : Hid (Aside1 B wo W9.drew) := ((HAIi.out.trans (aside_below hb8)).trans hs9).trans (aside_below hbd)
              have HL9 : Hid (LO txt 1 9 w5.heap.size W9.drew (.slice pi rs.length ci) rs) := HLi.out.step HSX.out (((above_below hb8).trans (above_aside HN5.out.2 hs9)).trans (above_below hbd))
              have HX9 : Hid (Blk W9.drew w3.heap.size [.string o, .slice pi rs.length ci] 77) := (HX8.out.aside hs9 (by have := HNB.out; omega)).below hbd
              have HZ9 : Hid (w5.heap.size ≤ W9.drew.heap.size) := Nat.le_trans (Nat.le_trans HSi.out hb8.size) (Nat.le_trans hs9.size hbd.size)
              have HNM := Hd (tname_calls (hr9.below hbd))
              have d9 := HX9.out.cell 1
              simp only [List.getElem?_cons_zero, List.getElem?_cons_succ] at d9
              clear hb8 hs9 hr9 hbd HRi HAi HAIi HXi HLi HR8
              go_upto_if 35 with fail
              try rw [H6D.out]
              go_upto_region 13 with fail
              clear d1 c1 f1 eW9 hw
              have hrl : rs.length < 6 := HRL.out
              go_region_law (first
               | (refine step_append_lies _ rfl (.tmp 46) (.tmp 49) 52 rfl w5.heap.size 9 u0 (.string ⟨#[]⟩) 1 16 Tryz.underlying52 ui uz0 uz1 uz2 rfl (by decide) _ _ _ (by simp [Act.eval, Act.put]) hown10 ⟨wA.heap.size, 0, none⟩ 1 1 [.string r] (by simp [Act.eval, Act.put]) rfl (World.news_of_block (heap_alloc_new _ _)) (by simp [Value.oneCell']) (by decide) (by unfold maxLen; omega) (by omega) hz10 _ rfl ?_
                  intro g cap wE hownE hgE hatE hltE
                  have dE := (hgE.cell_far ⟨w3.heap.size, 1, none⟩ HLT10.out.1 HLT10.out.2).trans d10
                  have fE := (hgE.frozen_far ⟨w3.heap.size, 1, none⟩ HLT10.out.1 HLT10.out.2).trans f10)
               | (go_simp
                  go_at_call 151
                  refine HNM.out.mono ?_
                  rintro e wA ⟨haA, vA, r, rfl, hrA, rfl, htA⟩
                  have hb10 : Below wA.heap.size wA (wA.alloc (.cells #[.string r] 9)) := (Below.refl _ _).alloc (Nat.le_refl _) _
                  obtain ⟨vals, hownA, hrowsA⟩ := HL9.out.step HSX.out (above_aside HN5.out.2 haA)
                  have hown10 := own_below hownA hb10
                  have hXA := HX9.out.aside haA (by have := HNB.out; omega)
                  have dA := hXA.cell 1
                  have d10 := (hXA.below hb10).cell 1
                  have f10 := (hXA.below hb10).fz 1
                  simp only [List.getElem?_cons_zero, List.getElem?_cons_succ] at dA d10
                  have hz10 : w5.heap.size ≤ (wA.alloc (.cells #[.string r] 9)).heap.size := Nat.le_trans HZ9.out (Nat.le_trans haA.size hb10.size)
                  have HLT10 : Hid (w3.heap.size < (wA.alloc (.cells #[.string r] 9)).heap.size ∧ some w3.heap.size ≠ (Value.slice pi rs.length ci).ownBlock) := ⟨(hXA.below hb10).lt, fun e => by have := (hownA.lt _ e.symm).1; have := HN5.out.1; omega⟩))
              all_goals (
               have hown1 : ∀ g', (Value.slice pi rs.length ci).ownBlock = some g' → w5.heap.size ≤ g' := fun g' hg => (hownA.lt g' hg).1
               have hws : w.heap.size ≤ w5.heap.size ∧ wo.heap.size ≤ w5.heap.size := by have h1 := HSZ.out; have h2 := HN5.out; omega
               have hAE : Aside1 B w wE := aside_grown ((HA9.out.trans haA).trans (aside_below hb10)) hgE hown1 hws.1
               have hAIE : Aside1 B wo wE := aside_grown ((HAI9.out.trans haA).trans (aside_below hb10)) hgE hown1 hws.2
               have hA12 := aside_set_new (b := w3.heap.size) (o := 1) hAE HSZ.out.2 (.slice (some ⟨g, 0, none⟩) (rs.length + 1) cap)
               have hAI12 := aside_set_new (b := w3.heap.size) (o := 1) hAIE HSZ.out.1 (.slice (some ⟨g, 0, none⟩) (rs.length + 1) cap)
               have hR12 := (Txr.grown HTK.out (hrA.below hb10) HN5.out.2 hAE hgE hown1).set HTK.out (by have := HNB.out; omega) hA12
               have hXE : Blk wE w3.heap.size [.string o, .slice pi rs.length ci] 77 := (hgE.block _ HLT10.out.1 HLT10.out.2).trans (hXA.below hb10)
               have hX12 := hXE.set 1 (.slice (some ⟨g, 0, none⟩) (rs.length + 1) cap)
               have hrows10 : Rows txt 1 (hide (inList w5.heap.size (.slice pi rs.length ci)) (wA.alloc (.cells #[.string r] 9))) rs vals := Rows.stays HSX.out (keeps_hide hb10.size fun b hb hp => ⟨hp, hb10.block b hb⟩) hrowsA
               have hL12 := (LO.push HSX.out (x := r) (n1 := (wA.alloc (.cells #[.string r] 9)).heap.size) hrows10 rfl rfl hz10 (fun g' hg => hown10.lt g' hg) hownE hgE (hatE.imp (fun e => by rw [e]; rfl) (fun e => by rw [e]; rfl))).step HSX.out (above_set (o := 1) HN5.out.1 (.slice (some ⟨g, 0, none⟩) (rs.length + 1) cap))
               have hZ12 : w5.heap.size ≤ (wE.setCell ⟨w3.heap.size, 1, none⟩ (.slice (some ⟨g, 0, none⟩) (rs.length + 1) cap)).heap.size := by simp only [World.setCell, Array.size_modify]; exact Nat.le_trans hz10 hgE.size
               have HG12 := Hd (HGN.out.step htA)
               have HA12 := Hd hA12
               have HAI12 := Hd hAI12
               have HR12 := Hd hR12
               have HX12 := Hd hX12
               have HL12 := Hd hL12
               have HZ12 := Hd hZ12
               clear hown1 hws hAE hAIE hA12 hAI12 hR12 hXE hX12 hrows10 hL12 hZ12 hownE hgE hatE hltE hown10 hownA hrowsA hXA dA hz10 htA hrA haA hb10
               try go_wp2_with (fail)
               go_roundg f
               case measure => omega
               case rel => exact ⟨rs ++ [r], _, _, _, rfl, ⟨by have := HF7.out; have := HRL.out; omega, by have := HF7.out; simp; omega⟩, HG12.out, HR12.out, HA12.out, HAI12.out, HX12.out, HL12.out, HZ12.out⟩)
       · have HG5 := Hd (HG4.out.kindNo (by rw [HTK4.out]; exact hk))
         have hk1 : (tk.1 == 1) = false := by simp [hk]
         clear hk
         go_wp2_with (fail)
         go_meet
         exact ⟨t4, [], _, HG5, HR5, HA5, HAI5, HX5, ⟨none, 0, rfl, Nat.le_refl _, by unfold maxLen; omega, .inl rfl⟩, Nat.le_refl _⟩
      case rest =>
      obtain ⟨t5, rs, rv, HG5, HR6, HA6, HAI6, HX6, HRS, HSZ6⟩ := hcut
      rename World => w6
      obtain ⟨pr, cr, rfl, _⟩ := HRS.out
      have hx200 : xs.length < 200 := by have := HF.out; omega
      obtain ⟨vals, hown6, hrows6⟩ := HLO.out.step HST.out (above_aside HB.out HAI6.out)
      obtain ⟨d0, d1⟩ : w6.cell? ⟨w3.heap.size, 0, none⟩ = some (.string o) ∧ w6.cell? ⟨w3.heap.size, 1, none⟩ = some (.slice pr rs.length cr) := ⟨by simpa using HX6.out.cell 0, by simpa using HX6.out.cell 1⟩
      obtain ⟨W7, eW7⟩ : ∃ W7, w6.alloc (.cells #[.string o, .slice pr rs.length cr] 77) = W7 := ⟨_, rfl⟩
      obtain ⟨z7, hW7, m7⟩ := boxes1 eW7
      have hown7 : W7.ownsRow w.heap.size 77 2 (.slice p9 xs.length c9) xs.length vals := own_below hown6 hW7
      have HROW7 : Hid (Rows pol 2 (hide (inList w.heap.size (.slice p9 xs.length c9)) W7) xs vals) := Rows.stays HST.out (keeps_hide hW7.size fun b hb hp => ⟨hp, hW7.block b hb⟩) hrows6
      have HXE7 : Hid (pol (since w5.heap.size W7) (o, rs) [.string o, .slice pr rs.length cr]) := ⟨[.string o], [.slice pr rs.length cr], rfl, rfl, ⟨_, rfl, HRS.out.stays (keeps_hide hW7.size fun b hb hp => ⟨hp, hW7.block b hb⟩)⟩⟩
      have HOW : Hid (∀ g, (Value.slice p9 xs.length c9).ownBlock = some g → w.heap.size ≤ g ∧ g < w5.heap.size) := fun g hg => by have h1 := HLO.out.own g hg; have h2 := HSZ.out; have h3 := HN5.out; omega
      have HA7 := Hd (HA6.out.trans (aside_below (B := B) hW7))
      have HR7 := Hd (HR6.out.below hW7)
      have hsz7 : w.heap.size ≤ W7.heap.size := HA7.out.size
      have HWS : Hid (w.heap.size ≤ w5.heap.size) := by have h1 := HSZ.out; have h2 := HN5.out; unfold Hid; omega
      clear hown6 hrows6 z7 hW7
      go_wp2_with (at_builtin; refine wpList_append_own_at _ rfl _ _ 23 rfl w.heap.size 77 t0 (.agg #[.string ⟨#[]⟩, .slice none 0 0]) 2 40 Tryz.underlying23 hi hz0 hz1 hz2 rfl (by decide) _ _ _ rfl hown7 ⟨w6.heap.size, 0, none⟩ 1 1 [.string o, .slice pr rs.length cr] rfl rfl ?c1 ?c2 ?c3 ?c4 ?c5 ?_)
      case c1 =>
       intro i u hj
       rw [Go.WideShapes.add_plain, Nat.zero_add, m7 i]
       simpa using hj
      case c2 => intro u hu; simp at hu; rcases hu with hu | hu <;> subst hu <;> rfl
      case c3 => unfold maxLen; omega
      case c4 => omega
      case c5 => exact hsz7
      · intro v7 w7 hown8 hg7 _ hb7
        have hA8 : Aside1 B w w7 := aside_grown HA7.out hg7 (fun g hg => (HOW.out g hg).1) (Nat.le_refl _)
        have HR8 := Hd (Txr.grown HTK.out HR7.out HB.out hA8 hg7 (fun g hg => (HOW.out g hg).1))
        have HL8 : Hid (LO pol 2 77 w.heap.size w7 v7 (xs ++ [(o, rs)])) := LO.push HST.out HROW7.out HXE7.out rfl HWS.out HOW.out hown8 hg7 hb7
        have HA8 := Hd hA8
        have hlen8 : (xs ++ [(o, rs)]).length = xs.length + 1 := by simp
        have HX9 : Hid ((xs ++ [(o, rs)]).length + fo = 200 ∧ 0 < (xs ++ [(o, rs)]).length) := ⟨by have := HF.out; omega, by omega⟩
        clear hA8 hown8 hg7 hb7 hown7 m7 d0 d1 eW7 hlen8 HA7 HR7 HROW7 HXE7 HRS HX6 HA6 HAI6 HR6 hx200 hsz7 HLO HA HR HF
        generalize xs ++ [(o, rs)] = ys at *
        obtain ⟨p7, c7, rfl⟩ := HL8.out.slice
        have HSE := Hd (sees_calls HR8.out tSemi)
        have HGE : Hid (Goes s (labelP T E) t5 fun k => if tkIs T k tSemi then (if ys.length = 200 then failP T E 2 k else labLoop T E fo ys (k + 1)) else labTail T E ys k) := by
         have := HG5.out
         rw [labRest_eq] at this
         exact this
        cases hs : t5.is T tSemi with
        | false =>
          rw [hs] at HSE
          have HGN : Hid (Goes s (labelP T E) t5 fun k => (mustP T E tShut k).bind fun _ k3 => .ok ys k3) := HGE.out.no hs
          clear hs
          go_wp2_with (fail)
          refine HSE.out.mono ?_
          rintro e w8 ⟨rfl, hb8⟩
          have HND := Hd (need_calls (HR8.out.below hb8) tShut)
          have HA9 := Hd (HA8.out.trans (aside_below hb8))
          have HL9 := Hd (HL8.out.step HST.out (above_below hb8))
          clear hb8
          go_wp2_with (fail)
          refine HND.out.mono ?_
          rintro e w9 ⟨ha9, v9, x9, rfl, hr9, rfl, ht9⟩
          have HFN := Hd (HGN.out.step ht9).fin
          have HR10 := Hd hr9
          have HA10 := Hd (HA9.out.trans ha9)
          have HL10 := Hd (HL9.out.step HST.out (above_aside HB.out ha9))
          clear ha9 hr9 ht9
          go_wp2_with (fail)
          go_ret
          exact ⟨HA10.out, _, ys, rfl, by rw [HFN.out.1]; exact HR10.out, HL10.out.done HST.out, HFN.out.2⟩
        | true =>
          rw [hs] at HSE
          have HGY := Hd (HGE.out.yes hs)
          have HIS := Hd hs
          clear hs
          by_cases h2 : ys.length = 200
          · have HFL : Hid (∀ q', Goes s (labelP T E) (t5.run (α := Unit) fun k => failP T E 2 k) q') := fun q' => HGY.out.fail fun j _ => if_pos h2
            have H2D : Hid (decide ((200 : Int) ≤ (ys.length : Int)) = true) := decide_eq_true (by omega)
            clear h2
            go_wp2_with (fail)
            refine HSE.out.mono ?_
            rintro e w8 ⟨rfl, hb8⟩
            have HW := Hd (wrong_calls (HR8.out.below hb8) 2 (by decide))
            have HA9 := Hd (HA8.out.trans (aside_below hb8))
            have HL9 := Hd (HL8.out.step HST.out (above_below hb8))
            clear hb8
            go_upto_if 64 with fail
            try rw [H2D.out]
            go_wp2_with (fail)
            refine HW.out.mono ?_
            rintro e w9 ⟨rfl, ha9, hr9⟩
            have HFN := Hd (HFL.out fun k => .ok ys k).fin
            have HR10 := Hd hr9
            have HA10 := Hd (HA9.out.trans ha9)
            have HL10 := Hd (HL9.out.step HST.out (above_aside HB.out ha9))
            clear ha9 hr9
            go_wp2_with (fail)
            go_ret
            exact ⟨HA10.out, _, ys, rfl, by rw [HFN.out.1]; exact HR10.out, HL10.out.done HST.out, HFN.out.2⟩
          · have HGN : Hid (Goes s (labelP T E) t5.up (labLoop T E fo ys)) := by
             have h1 := HGY.out
             simp only [if_neg h2] at h1
             exact h1.next
            have H2D : Hid (decide ((200 : Int) ≤ (ys.length : Int)) = false) := decide_eq_false (by have := HX9.out; omega)
            have HFO : Hid (0 < fo) := by have := HX9.out; unfold Hid; omega
            have hw : ((t5.k T.length : Nat) : Int) + 1 ≤ 9223372036854775807 := by
             obtain ⟨k, rfl, hk⟩ := TS.is_go HIS.out
             have h1 := tkIs_lt hk
             have h2 := HLN.out
             show (k : Int) + 1 ≤ _
             omega
            clear h2
            go_wp2_with (fail)
            refine HSE.out.mono ?_
            rintro e w8 ⟨rfl, hb8⟩
            have HR9 := Hd (HR8.out.below hb8)
            have HA9 := Hd (HA8.out.trans (aside_below hb8))
            have HL9 := Hd (HL8.out.step HST.out (above_below hb8))
            have c1 := HR9.out.c1
            have f1 := HR9.out.fz 1
            clear hb8
            go_upto_if 64 with fail
            try rw [H2D.out]
            go_wp2_with (fail)
            go_roundg fo
            case measure => omega
            case rel => exact ⟨ys, t5.up, _, _, rfl, rfl, ⟨HFO.out, by have := HX9.out; omega⟩, HGN.out, HL9.out.step HST.out (above_set HB.out _), HA9.out.trans (aside_set _ _), HR9.out.up HIS.out⟩
end
section
open Go.RowKit
section
variable (T : List Tok) (E : Int) (p : Nat → Rs Ex)
def argTail (l : List Ex) (k : Nat) : Rs (List Ex) := (mustP T E tRight k).bind fun _ k3 => .ok l k3
def argRest (f : Nat) (xs : List Ex) (k : Nat) : Rs (List Ex) := (listGo T E p 4 tComma f xs k).bind (argTail T E)
theorem argsP_eq (prim : Nat → Rs Ex) : argsP T E prim = fun k => (mustP T E tLeft k).bind fun _ k1 => if tkIs T k1 tRight then .ok [] (k1 + 1) else (exprL T prim 5 k1).bind fun x k2 => argRest T E (exprL T prim 5) 4 [x] k2 := by
 funext k
 unfold argsP
 congr 1
 funext _ k1
 split
 · rfl
 · unfold listP argRest
   rw [Rs.bind_assoc]
   rfl
theorem argRest_eq (f : Nat) (xs : List Ex) : argRest T E p (f + 1) xs = fun k => if tkIs T k tComma then (if xs.length = 4 then failP T E 2 k else (p (k + 1)).bind fun x k2 => argRest T E p f (xs ++ [x]) k2) else argTail T E xs k := by
 funext k
 unfold argRest
 rw [listGo]
 split
 · split
   · rfl
   · rw [Rs.bind_assoc]
 · rfl
end
def TReads (B : Nat) (T : List Tok) (E : Int) (tv : Value) (bl al : Nat) (fn : FuncId) (p : Nat → Rs Ex) : Prop :=
 ∀ (W : World) (s : TS), Txr W B T E tv s bl al → Calls Tryz.prog fn #[.pointer (some ⟨B, 0, none⟩)] W (TDoes W B T E tv s bl al (fun W x v => ExIs W x v) p)
theorem ExIs.cells {w : World} {x : Ex} {v : Value} (h : ExIs w x v) : ∃ pl cl pa ca, v = .agg #[.int .i64 x.kind, .int .i64 x.at_, .int .i64 x.num, .int .i64 x.ty, .string x.name, .slice pl x.lab.length cl, .slice pa x.kids.length ca] ∧ exE w x [.int .i64 x.kind, .int .i64 x.at_, .int .i64 x.num, .int .i64 x.ty, .string x.name, .slice pl x.lab.length cl, .slice pa x.kids.length ca] := by
 obtain ⟨vl, va, rfl, hl, ha⟩ := h
 obtain ⟨pl, cl, rfl, q1⟩ := hl
 obtain ⟨pa, ca, rfl, q2⟩ := ha
 refine ⟨pl, cl, pa, ca, rfl, ?_⟩
 obtain ⟨kind, at_, n, ty, name, l, a⟩ := x
 exact exE_mk ⟨pl, cl, rfl, q1⟩ ⟨pa, ca, rfl, q2⟩
theorem exs_nil (W : World) : Exs W [] (.slice none 0 0) := ⟨none, 0, rfl, Nat.le_refl _, by unfold maxLen; omega, .inl rfl⟩
theorem targs_calls {w : World} {B : Nat} {T : List Tok} {E : Int} {tv : Value} {s : TS} {bl al : Nat} (h : Txr w B T E tv s bl al) {prim : Nat → Rs Ex} (hex : TReads B T E tv bl al 71 (exprL T prim 5)) :
 Calls Tryz.prog 199 #[.pointer (some ⟨B, 0, none⟩)] w (TDoes w B T E tv s bl al (fun W l v => Exs W l v) (argsP T E prim)) := by
 obtain ⟨t0, hi, hz0, hz1, hz2⟩ := info_parts Tryz.info_exprP
 have HB : Hid (B < w.heap.size) := h.lt
 have HTK := Hd h.toks
 have HLN := Hd h.len
 have HN := Hd (need_calls h tLeft)
 have HST : Hid (Stays exE) := exE_stays
 have HEX := Hd hex
 clear h hex
 go_enter Tryz.func199, Tryz.ntmps199
 go_wp2_with (fail)
 refine HN.out.mono ?_
 rintro e w1 ⟨ha1, v1, x1, rfl, hr1, rfl, ht1⟩
 have HG1 : Hid (Goes s (argsP T E prim) (s.run (mustP T E tLeft)) fun k1 => if tkIs T k1 tRight then .ok [] (k1 + 1) else (exprL T prim 5 k1).bind fun x k2 => argRest T E (exprL T prim 5) 4 [x] k2) := by
  unfold Hid
  rw [argsP_eq]
  exact (Goes.refl s _).step ht1
 have HA1 := Hd ha1
 have HR1 := Hd hr1
 clear ha1 hr1 ht1 HN
 generalize s.run (mustP T E tLeft) = s1 at *
 cases hsh : s1.is T tRight with
 | true =>
   have HSK := Hd (skip_yes HR1.out tRight hsh)
   have HF := Hd ((HG1.out.yes hsh).next (A := fun k => .ok [] k)).fin
   clear hsh
   go_wp2_with (fail)
   refine HSK.out.mono ?_
   rintro e w2 ⟨rfl, ha2, hr2⟩
   have HA2 := Hd (HA1.out.trans ha2)
   have HR2 := Hd hr2
   clear ha2 hr2
   go_wp2_with (fail)
   go_ret
   exact ⟨HA2.out, _, [], rfl, by rw [HF.out.1]; exact HR2.out, exs_nil _, HF.out.2⟩
 | false =>
   have HSK := Hd (skip_no HR1.out tRight hsh)
   have HG2 := Hd (HG1.out.no hsh)
   clear hsh HG1
   cases s1 with
   | stop c a =>
     have hc : ¬ c = 0 := HR1.out.fine c a rfl
     have hc1 : (c != 0) = true := bne_iff_ne.2 hc
     have hc2 : (c == 0) = false := beq_eq_false_iff_ne.2 hc
     have HF := Hd (HG2.out.lost [])
     clear hc
     go_wp2_with (fail)
     refine HSK.out.mono ?_
     rintro e w2 ⟨rfl, hb2⟩
     have HR2 := Hd (HR1.out.below hb2)
     have HA2 := Hd (HA1.out.trans (aside_below hb2))
     have c3 := HR2.out.c3
     simp only [TS.c] at c3
     clear hb2
     go_wp2_with (fail)
     go_ret
     exact ⟨HA2.out, _, [], rfl, by rw [HF.out.1]; exact HR2.out, exs_nil _, HF.out.2⟩
   | go k1 =>
     go_wp2_with (fail)
     refine HSK.out.mono ?_
     rintro e w2 ⟨rfl, hb2⟩
     have HR2 := Hd (HR1.out.below hb2)
     have HA2 := Hd (HA1.out.trans (aside_below hb2))
     have c3 := HR2.out.c3
     simp only [TS.c] at c3
     clear hb2 HSK HR1 HA1
     go_wp2_with (fail)
     clear c3
     refine (HEX.out _ _ HR2.out).mono ?_
     rintro e w3 ⟨ha3, v3, x3, rfl, hr3, hx3, ht3⟩
     have HG3 := Hd (HG2.out.step ht3)
     obtain ⟨vl, va, rfl, hrow⟩ := hx3.row
     have hrow3 : exE (since w.heap.size w3) x3 _ := HST.out _ _ _ _ (since_mono w3 (HA2.out.size)) hrow
     have HL3 := Hd (LO.first (ks := 7) (et := 26) HST.out (Nat.le_trans HA2.out.size ha3.size) hrow3 rfl (by decide))
     have HA3 := Hd (HA2.out.trans ha3)
     have HR3 := Hd hr3
     obtain ⟨W4, eW⟩ : ∃ W4, w3.alloc (.cells #[.int .i64 x3.kind, .int .i64 x3.at_, .int .i64 x3.num, .int .i64 x3.ty, .string x3.name, vl, va] 26) = W4 := ⟨_, rfl⟩
     have hb4 : Below w3.heap.size w3 W4 := by rw [← eW]; exact (Below.refl _ _).alloc (Nat.le_refl _) _
     have HL4 : Hid (LO exE 7 26 w.heap.size W4 (.slice (some ⟨w3.heap.size, 0, none⟩) 1 1) [x3]) := by rw [← eW]; exact HL3.out
     have HA4 := Hd (HA3.out.trans (aside_below hb4))
     have HR4 := Hd (HR3.out.below hb4)
     clear ha3 hr3 hx3 ht3 hrow hrow3 hb4 HL3 HA3 HR3 HG2 HR2 HA2
     generalize (TS.go k1).run (exprL T prim 5) = t3 at *
     go_wp2_with (fail)
     clear eW
     go_loopg [3] 4 (fun f lv ws => ∃ (xs : List Ex) (t : TS) (wo : World) (vv : Value), vv = lv ∧ wo = ws ∧ Hid (0 < f ∧ xs.length + f = 5) ∧ Hid (Goes s (argsP T E prim) t (argRest T E (exprL T prim 5) f xs)) ∧ Hid (LO exE 7 26 w.heap.size wo vv xs) ∧ Hid (Aside1 B w wo) ∧ Hid (Txr wo B T E tv t bl al))
     case atStart => exact ⟨[x3], t3, _, _, rfl, rfl, ⟨by decide, rfl⟩, HG3.out, HL4.out, HA4.out, HR4.out⟩
     case round =>
      clear HG3 HL4 HA4 HR4
      obtain ⟨xs, t, wo, vv, rfl, rfl, HF, HG, HLO, HA, HR⟩ := hrel
      obtain ⟨fo, rfl⟩ : ∃ fo, gk = fo + 1 := ⟨gk - 1, by have := HF.out; omega⟩
      obtain ⟨p9, c9, rfl⟩ := HLO.out.slice
      have HSE := Hd (sees_calls HR.out tComma)
      have HGE : Hid (Goes s (argsP T E prim) t fun k => if tkIs T k tComma then (if xs.length = 4 then failP T E 2 k else (exprL T prim 5 (k + 1)).bind fun x k2 => argRest T E (exprL T prim 5) fo (xs ++ [x]) k2) else argTail T E xs k) := by
       have := HG.out
       rw [argRest_eq] at this
       exact this
      cases hs : t.is T tComma with
      | false =>
        rw [hs] at HSE
        have HGN : Hid (Goes s (argsP T E prim) t fun k => (mustP T E tRight k).bind fun _ k3 => .ok xs k3) := HGE.out.no hs
        clear hs
        go_wp2_with (fail)
        refine HSE.out.mono ?_
        rintro e w8 ⟨rfl, hb8⟩
        have HND := Hd (need_calls (HR.out.below hb8) tRight)
        have HA9 := Hd (HA.out.trans (aside_below hb8))
        have HL9 := Hd (HLO.out.step HST.out (above_below hb8))
        clear hb8
        go_wp2_with (fail)
        refine HND.out.mono ?_
        rintro e w9 ⟨ha9, v9, x9, rfl, hr9, rfl, ht9⟩
        have HFN := Hd (HGN.out.step ht9).fin
        have HR10 := Hd hr9
        have HA10 := Hd (HA9.out.trans ha9)
        have HL10 := Hd (HL9.out.step HST.out (above_aside HB.out ha9))
        clear ha9 hr9 ht9
        go_wp2_with (fail)
        go_ret
        exact ⟨HA10.out, _, xs, rfl, by rw [HFN.out.1]; exact HR10.out, HL10.out.done HST.out, HFN.out.2⟩
      | true =>
        rw [hs] at HSE
        have HGY := Hd (HGE.out.yes hs)
        have HIS := Hd hs
        clear hs
        by_cases h2 : xs.length = 4
        · have HFL : Hid (∀ q', Goes s (argsP T E prim) (t.run (α := Unit) fun k => failP T E 2 k) q') := fun q' => HGY.out.fail fun j _ => if_pos h2
          have H2D : Hid (decide ((4 : Int) ≤ (xs.length : Int)) = true) := decide_eq_true (by omega)
          clear h2
          go_wp2_with (fail)
          refine HSE.out.mono ?_
          rintro e w8 ⟨rfl, hb8⟩
          have HW := Hd (wrong_calls (HR.out.below hb8) 2 (by decide))
          have HA9 := Hd (HA.out.trans (aside_below hb8))
          clear hb8
          go_upto_if 23 with fail
          try rw [H2D.out]
          go_wp2_with (fail)
          refine HW.out.mono ?_
          rintro e w9 ⟨rfl, ha9, hr9⟩
          have HFN := Hd (HFL.out fun k => .ok [] k).fin
          have HR10 := Hd hr9
          have HA10 := Hd (HA9.out.trans ha9)
          clear ha9 hr9
          go_wp2_with (fail)
          go_ret
          exact ⟨HA10.out, _, [], rfl, by rw [HFN.out.1]; exact HR10.out, exs_nil _, HFN.out.2⟩
        · have HGN : Hid (Goes s (argsP T E prim) t.up fun k => (exprL T prim 5 k).bind fun x k2 => argRest T E (exprL T prim 5) fo (xs ++ [x]) k2) := by
           have h1 := HGY.out
           simp only [if_neg h2] at h1
           exact h1.next (A := fun k => (exprL T prim 5 k).bind fun x k2 => argRest T E (exprL T prim 5) fo (xs ++ [x]) k2)
          have HX4 : Hid (xs.length < 4) := by have := HF.out; unfold Hid; omega
          have H2D : Hid (decide ((4 : Int) ≤ (xs.length : Int)) = false) := decide_eq_false (by have := HX4.out; omega)
          have hw : ((t.k T.length : Nat) : Int) + 1 ≤ 9223372036854775807 := by
           obtain ⟨k, rfl, hk⟩ := TS.is_go HIS.out
           have h1 := tkIs_lt hk
           have h2 := HLN.out
           show (k : Int) + 1 ≤ _
           omega
          clear h2
          go_wp2_with (fail)
          refine HSE.out.mono ?_
          rintro e w8 ⟨rfl, hb8⟩
          have HR9 := Hd (HR.out.below hb8)
          have HA9 := Hd (HA.out.trans (aside_below hb8))
          have HL9 := Hd (HLO.out.step HST.out (above_below hb8))
          have c1 := HR9.out.c1
          have f1 := HR9.out.fz 1
          clear hb8
          go_upto_if 23 with fail
          try rw [H2D.out]
          obtain ⟨W9, eW9⟩ : ∃ W9, w8.setCell ⟨B, 1, none⟩ (.int .i64 (((t.k T.length : Nat) : Int) + 1)) = W9 := ⟨_, rfl⟩
          have hs9 : Aside1 B w8 W9 := by rw [← eW9]; exact aside_set _ _
          have HR10 : Hid (Txr W9 B T E tv t.up bl al) := by unfold Hid; rw [← eW9]; exact HR9.out.up HIS.out
          have HA10 := Hd (HA9.out.trans hs9)
          have HL10 := Hd (HL9.out.step HST.out (above_aside HB.out hs9))
          clear hs9 HR9 HA9 HL9
          go_wp2_with (fail)
          clear eW9 c1 f1 hw
          refine (HEX.out _ _ HR10.out).mono ?_
          rintro e w11 ⟨ha11, v11, x11, rfl, hr11, hx11, ht11⟩
          obtain ⟨pl, cl, pa, ca, rfl, hrow⟩ := hx11.cells
          have HG11 := Hd (HGN.out.step ht11)
          obtain ⟨vals, hown6, hrows6⟩ := HL10.out.step HST.out (above_aside HB.out ha11)
          obtain ⟨W7, eW7⟩ : ∃ W7, w11.alloc (.cells #[.int .i64 x11.kind, .int .i64 x11.at_, .int .i64 x11.num, .int .i64 x11.ty, .string x11.name, .slice pl x11.lab.length cl, .slice pa x11.kids.length ca] 26) = W7 := ⟨_, rfl⟩
          obtain ⟨z7, hW7, m7⟩ := boxes1 eW7
          have hown7 : W7.ownsRow w.heap.size 26 7 (.slice p9 xs.length c9) xs.length vals := own_below hown6 hW7
          have HROW7 : Hid (Rows exE 7 (hide (inList w.heap.size (.slice p9 xs.length c9)) W7) xs vals) := Rows.stays HST.out (keeps_hide hW7.size fun b hb hp => ⟨hp, hW7.block b hb⟩) hrows6
          have HXE7 : Hid (exE (since W9.heap.size W7) x11 [.int .i64 x11.kind, .int .i64 x11.at_, .int .i64 x11.num, .int .i64 x11.ty, .string x11.name, .slice pl x11.lab.length cl, .slice pa x11.kids.length ca]) := HST.out _ _ _ _ (keeps_hide hW7.size fun b hb hp => ⟨hp, hW7.block b hb⟩) hrow
          have HOW : Hid (∀ g, (Value.slice p9 xs.length c9).ownBlock = some g → w.heap.size ≤ g ∧ g < W9.heap.size) := HL10.out.own
          have HA12 := Hd ((HA10.out.trans ha11).trans (aside_below (B := B) hW7))
          have HR12 := Hd (hr11.below hW7)
          have hsz7 : w.heap.size ≤ W7.heap.size := HA12.out.size
          have HWS : Hid (w.heap.size ≤ W9.heap.size) := HA10.out.size
          have hx4 : xs.length < 4 := HX4.out
          clear hown6 hrows6 z7 hW7 ha11 hr11 hx11 ht11 hrow
          go_wp2_with (at_builtin; refine wpList_append_own_at _ rfl _ _ 24 rfl w.heap.size 26 t0 (.agg #[.int .i64 0, .int .i64 0, .int .i64 0, .int .i64 0, .string ⟨#[]⟩, .slice none 0 0, .slice none 0 0]) 7 96 Tryz.underlying24 hi hz0 hz1 hz2 rfl (by decide) _ _ _ rfl hown7 ⟨w11.heap.size, 0, none⟩ 1 1 [.int .i64 x11.kind, .int .i64 x11.at_, .int .i64 x11.num, .int .i64 x11.ty, .string x11.name, .slice pl x11.lab.length cl, .slice pa x11.kids.length ca] rfl rfl ?c1 ?c2 ?c3 ?c4 ?c5 ?_)
          case c1 =>
           intro i u hj
           rw [Go.WideShapes.add_plain, Nat.zero_add, m7 i]
           simpa using hj
          case c2 => intro u hu; simp at hu; rcases hu with hu | hu | hu | hu | hu | hu | hu <;> subst hu <;> rfl
          case c3 => unfold maxLen; omega
          case c4 => omega
          case c5 => exact hsz7
          · intro v13 w13 hown13 hg13 _ hb13
            have hA13 : Aside1 B w w13 := aside_grown HA12.out hg13 (fun g hg => (HOW.out g hg).1) (Nat.le_refl _)
            have HR13 := Hd (Txr.grown HTK.out HR12.out HB.out hA13 hg13 (fun g hg => (HOW.out g hg).1))
            have HL13 : Hid (LO exE 7 26 w.heap.size w13 v13 (xs ++ [x11])) := LO.push HST.out HROW7.out HXE7.out rfl HWS.out HOW.out hown13 hg13 hb13
            have HA13 := Hd hA13
            clear hA13 hown13 hg13 hb13 hown7 m7 eW7
            go_wp2_with (fail)
            go_roundg fo
            case measure => omega
            case rel => exact ⟨xs ++ [x11], _, _, _, rfl, rfl, ⟨by have := HF.out; have := HX4.out; omega, by have := HF.out; simp; omega⟩, HG11.out, HL13.out, HA13.out, HR13.out⟩
end
section
open Go.RowKit
section
variable {T : List Tok} {prim : Nat → Rs Ex}
theorem opLoop_fuel {one : Nat → Rs Ex} (hm : Mono one) (level : Int) : ∀ (f f' : Nat) (x : Ex) (k : Nat), T.length ≤ k + f → T.length ≤ k + f' → opLoop T one level f x k = opLoop T one level f' x k := by
 intro f
 induction f with
 | zero =>
   intro f' x k h h'
   cases f' with
   | zero => rfl
   | succ f' =>
     rw [opLoop, opLoop, if_pos]
     left
     rw [tkNext_ge (by omega)]
     decide
 | succ f ih =>
   intro f' x k h h'
   cases f' with
   | zero =>
     rw [opLoop, opLoop, if_pos]
     left
     rw [tkNext_ge (by omega)]
     decide
   | succ f' =>
     rw [opLoop, opLoop]
     split
     · rfl
     · cases ho : one (k + 1) with
       | bad c a => rfl
       | ok y k' =>
         have := hm _ _ _ ho
         exact ih f' _ k' (by omega) (by omega)
def oL (T : List Tok) (prim : Nat → Rs Ex) (j : Nat) (x : Ex) (k : Nat) : Rs Ex := opLoop T (exprL T prim j) (5 - j) T.length x k
theorem exprL_succ (j : Nat) (k : Nat) : exprL T prim (j + 1) k = (exprL T prim j k).bind (oL T prim j) := rfl
def contL (T : List Tok) (prim : Nat → Rs Ex) : Nat → Nat → Ex → Nat → Rs Ex
 | _, 0, x, k => .ok x k
 | j, n + 1, x, k => (oL T prim j x k).bind fun y k' => contL T prim (j + 1) n y k'
theorem Rs.bind_assoc' {α β γ : Type} (r : Rs α) (f : α → Nat → Rs β) (g : β → Nat → Rs γ) : (r.bind f).bind g = r.bind fun x k => (f x k).bind g := by
 cases r <;> rfl
theorem bind_id (r : Rs Ex) : (r.bind fun x k => .ok x k) = r := by cases r <;> rfl
theorem exprL_cont (j n k : Nat) : exprL T prim (j + n) k = (exprL T prim j k).bind (contL T prim j n) := by
 induction n generalizing j with
 | zero => exact (bind_id _).symm
 | succ n ih =>
   have e : j + (n + 1) = (j + 1) + n := by omega
   rw [e, ih, exprL_succ]
   cases exprL T prim j k <;> rfl
theorem contL_add (j a b : Nat) (x : Ex) (k : Nat) : contL T prim j (a + b) x k = (contL T prim j a x k).bind (contL T prim (j + a) b) := by
 induction a generalizing j x k with
 | zero =>
   rw [Nat.zero_add]
   rfl
 | succ a ih =>
   have e : a + 1 + b = (a + b) + 1 := by omega
   rw [e]
   show ((oL T prim j x k).bind fun y k' => contL T prim (j + 1) (a + b) y k') = ((oL T prim j x k).bind fun y k' => contL T prim (j + 1) a y k').bind _
   cases oL T prim j x k with
   | bad c a => rfl
   | ok y k' =>
     show contL T prim (j + 1) (a + b) y k' = (contL T prim (j + 1) a y k').bind _
     rw [ih]
     congr 2
     omega
def nx (T : List Tok) (k : Nat) : Nat := if (tkNext T k).1 = 4 then (5 - levelT (tkNext T k).2.2).toNat else 5
theorem level_range (s : Txt) : 0 ≤ levelT s ∧ levelT s ≤ 5 := by
 unfold levelT
 split
 · omega
 split
 · omega
 split
 · omega
 split
 · omega
 split <;> omega
theorem oL_pass {j k : Nat} (h : j < nx T k) (x : Ex) : oL T prim j x k = .ok x k := by
 unfold oL
 cases hT : T.length with
 | zero => rfl
 | succ n =>
   rw [opLoop, if_pos]
   unfold nx at h
   by_cases h4 : (tkNext T k).1 = 4
   · right
     rw [if_pos h4] at h
     omega
   · exact .inl h4
theorem contL_pass {j n k : Nat} (h : j + n ≤ nx T k) (x : Ex) : contL T prim j n x k = .ok x k := by
 induction n generalizing j with
 | zero => rfl
 | succ n ih =>
   rw [contL, oL_pass (by omega)]
   exact ih (by omega)
theorem oL_sign (hm : Mono prim) {k : Nat} (h4 : (tkNext T k).1 = 4) (hl : 0 < levelT (tkNext T k).2.2) (x : Ex) :
 oL T prim (nx T k) x k = (exprL T prim (nx T k) (k + 1)).bind fun y k' => oL T prim (nx T k) (.mk 3 (tkNext T k).2.1 0 0 (tkNext T k).2.2 [] [x, y]) k' := by
 have hj : (5 - (nx T k : Int)) = levelT (tkNext T k).2.2 := by
  unfold nx
  rw [if_pos h4]
  have := level_range (tkNext T k).2.2
  omega
 have hk : k < T.length := kind_lt (by omega)
 have hm' : Mono (exprL T prim (nx T k)) := exprL_mono hm _
 generalize hg : nx T k = j at *
 have e0 : oL T prim j x k = opLoop T (exprL T prim j) (5 - j) ((T.length - 1) + 1) x k := by
  unfold oL
  congr 1
  omega
 rw [e0, opLoop, if_neg]
 · cases ho : exprL T prim j (k + 1) with
   | bad c a => rfl
   | ok y k' =>
     have := hm' _ _ _ ho
     exact opLoop_fuel hm' _ _ _ _ _ (by omega) (by omega)
 · rw [hj]
   simp [h4]
def ix (s : Tok) : Nat := (5 - levelT s.2.2).toNat
def fin (T : List Tok) (prim : Nat → Rs Ex) : Nat → Ex → List Ex → List Tok → Nat → Rs Ex
 | j, x, y :: ls, s :: ss, k => (contL T prim j (ix s - j) x k).bind fun x' k' => fin T prim (ix s) (.mk 3 s.2.1 0 0 s.2.2 [] [y, x']) ls ss k'
 | j, x, _, _, k => contL T prim j (5 - j) x k
def Tight : List Tok → Prop
 | [] => True
 | s :: ss => ix s ≤ 4 ∧ (∀ t ∈ ss, ix s < ix t) ∧ Tight ss
def nextIx (ss : List Tok) : Nat := match ss with
 | [] => 5
 | s :: _ => ix s
theorem fin_pass {a j : Nat} {x : Ex} {ls : List Ex} {ss : List Tok} {k : Nat} (hlen : ls.length = ss.length) (hj : a ≤ j) (hs : j ≤ nextIx ss) (h : j ≤ nx T k) : fin T prim a x ls ss k = fin T prim j x ls ss k := by
 match ls, ss, hlen with
 | [], [], _ =>
   have hs : j ≤ 5 := hs
   show contL T prim a (5 - a) x k = contL T prim j (5 - j) x k
   have e : 5 - a = (j - a) + (5 - j) := by omega
   rw [e, contL_add, contL_pass (by omega)]
   show contL T prim (a + (j - a)) (5 - j) x k = _
   congr 1
   omega
 | y :: ls, s :: ss, _ =>
   have hs : j ≤ ix s := hs
   show (contL T prim a (ix s - a) x k).bind _ = (contL T prim j (ix s - j) x k).bind _
   have e : ix s - a = (j - a) + (ix s - j) := by omega
   rw [e, contL_add, contL_pass (by omega)]
   show (contL T prim (a + (j - a)) (ix s - j) x k).bind _ = _
   have e2 : a + (j - a) = j := by omega
   rw [e2]
theorem fin_put {x y : Ex} {ls : List Ex} {s : Tok} {ss : List Tok} {k : Nat} (hlen : ls.length = ss.length) (ht : Tight (s :: ss)) (h : ix s ≤ nx T k) :
 fin T prim 0 x (y :: ls) (s :: ss) k = fin T prim 0 (.mk 3 s.2.1 0 0 s.2.2 [] [y, x]) ls ss k := by
 have e : fin T prim 0 x (y :: ls) (s :: ss) k = fin T prim (ix s) (.mk 3 s.2.1 0 0 s.2.2 [] [y, x]) ls ss k := by
  show (contL T prim 0 (ix s - 0) x k).bind _ = _
  rw [contL_pass (by omega)]
  rfl
 rw [e]
 refine (fin_pass hlen (Nat.zero_le _) ?_ h).symm
 cases ss with
 | nil => exact Nat.le_trans ht.1 (by decide)
 | cons t ss => exact Nat.le_of_lt (ht.2.1 t (by simp))
theorem fin_push (hm : Mono prim) {x : Ex} {ls : List Ex} {ss : List Tok} {k : Nat} (hlen : ls.length = ss.length) (h4 : (tkNext T k).1 = 4) (hl : 0 < levelT (tkNext T k).2.2) (h : nx T k < nextIx ss) (h5 : nextIx ss ≤ 5) :
 fin T prim 0 x ls ss k = (prim (k + 1)).bind fun y k' => fin T prim 0 y (x :: ls) (tkNext T k :: ss) k' := by
 have hix : ix (tkNext T k) = nx T k := by unfold ix nx; rw [if_pos h4]
 rw [fin_pass (j := nx T k) hlen (Nat.zero_le _) (Nat.le_of_lt h) (Nat.le_refl _)]
 have key : fin T prim (nx T k) x ls ss k = (exprL T prim (nx T k) (k + 1)).bind fun y k' => fin T prim (nx T k) (.mk 3 (tkNext T k).2.1 0 0 (tkNext T k).2.2 [] [x, y]) ls ss k' := by
  match ls, ss, hlen with
  | [], [], _ =>
    show contL T prim (nx T k) (5 - nx T k) x k = (exprL T prim (nx T k) (k + 1)).bind fun y k' => contL T prim (nx T k) (5 - nx T k) _ k'
    have hs : nx T k < 5 := h
    obtain ⟨n, hn⟩ : ∃ n, 5 - nx T k = n + 1 := ⟨5 - nx T k - 1, by omega⟩
    rw [hn, contL, oL_sign hm h4 hl, Rs.bind_assoc']
    rfl
  | y :: ls, s :: ss, _ =>
    show (contL T prim (nx T k) (ix s - nx T k) x k).bind _ = (exprL T prim (nx T k) (k + 1)).bind fun y' k' => (contL T prim (nx T k) (ix s - nx T k) _ k').bind _
    have hs : nx T k < ix s := h
    obtain ⟨n, hn⟩ : ∃ n, ix s - nx T k = n + 1 := ⟨ix s - nx T k - 1, by omega⟩
    rw [hn, contL, oL_sign hm h4 hl, Rs.bind_assoc', Rs.bind_assoc']
    congr 1
    funext y' k'
    show _ = ((oL T prim (nx T k) (.mk 3 (tkNext T k).2.1 0 0 (tkNext T k).2.2 [] [x, y']) k').bind fun y k' => contL T prim (nx T k + 1) n y k').bind _
    rw [Rs.bind_assoc']
 rw [key]
 have e0 := exprL_cont (T := T) (prim := prim) 0 (nx T k) (k + 1)
 rw [Nat.zero_add] at e0
 rw [e0, Rs.bind_assoc']
 show (prim (k + 1)).bind _ = (prim (k + 1)).bind _
 congr 1
 funext y k'
 show (contL T prim 0 (nx T k) y k').bind _ = (contL T prim 0 (ix (tkNext T k) - 0) y k').bind _
 rw [hix]
 rfl
theorem fin_end {x : Ex} {k : Nat} (h : nx T k = 5) : fin T prim 0 x [] [] k = .ok x k := contL_pass (by omega) x
theorem exprL_fin (k : Nat) : exprL T prim 5 k = (prim k).bind fun x k' => fin T prim 0 x [] [] k' := exprL_cont 0 5 k
end
end
end Go.Proofs.YtmepcmnpmhhiiaaGreatDoor
