/-
  The reader's expressions, whole. strconv.Atoi at a text's numbers. parse.read: the tokens copied. parse.read: what is deferred recovers. parse.read of an expression. parse.read of an expression, whole. parse.Expr: an expression of a text. The closed fact: an expression, there and back. cloisterlaw.TreeExpr returns true; printed by trxgen.py.
-/
import Derived.Test.YtmepcmnpmhhiiaaGreatDoorTE09
import Derived.Test.YtmepcmnpmhhiiaaGreatDoorTE03
import Derived.Lib.Atoi
import Derived.Test.YtmepcmnpmhhiiaaGreatDoorTE02
import Derived.Shelf.SlicesE.Clone
import Derived.Recover
import Derived.Defers
import Derived.Test.YtmepcmnpmhhiiaaGreatDoorTE05
import Derived.BigQuiet
import Derived.Test.YtmepcmnpmhhiiaaGreatDoorTE07
import Derived.Test.YtmepcmnpmhhiiaaGreatDoorTE08
namespace Go.Proofs.YtmepcmnpmhhiiaaGreatDoor
open Go.RowKit Go.Maps
set_option linter.unusedVariables false
set_option linter.unusedSimpArgs false

/-- What is asked of strconv.Atoi at the tokens. -/
def AtoiC (T : List Tok) : Prop := ∀ k, (tkNext T k).1 = 2 → ∀ W, Calls Tryz.prog 188 #[.string (tkNext T k).2.2] W fun e w' => e = .returned (.tuple #[.int .i64 (numT (tkNext T k).2.2), .nilIface]) ∧ Below W.heap.size W w'
section
variable {B : Nat} {T : List Tok} {E : Int} {tv : Value} {dp : Nat}
theorem primary_calls (hlev : LevelC) (hato : AtoiC T) : ∀ (d ns : Nat), ns + d = 12 → ReadsEx B T E tv dp ns 136 #[.pointer (some ⟨B, 0, none⟩)] (primP T E d) := by
  intro d
  induction d with
  | zero =>
    intro ns hn W k h
    exact prim_deep h (by omega)
  | succ d ih =>
    intro ns hn W k h
    have hns : ns < 12 := by omega
    have hp := ih (ns + 1) (by omega)
    have hx := expr_one hlev (primP_mono d) hp
    unfold primP
    by_cases h2 : (tkNext T k).1 = 2
    · rw [if_pos h2]
      exact prim_num h hns h2 (hato k h2)
    rw [if_neg h2]
    cases htt : tkIs T k tTrue with
    | true =>
      rw [if_pos rfl]
      exact prim_true h hns h2 htt
    | false =>
    rw [if_neg (by simp)]
    cases htf : tkIs T k tFalse with
    | true =>
      rw [if_pos rfl]
      exact prim_false h hns h2 htt htf
    | false =>
    rw [if_neg (by simp)]
    by_cases h1 : (tkNext T k).1 = 1
    · rw [if_pos h1]
      cases hl : tkIs T (k + 1) tLeft with
      | true =>
        rw [if_pos rfl]
        cases hq : argsP T E (primP T E d) (k + 1) with
        | bad c a => exact prim_call_bad h hns h2 htt htf h1 hx hl hq
        | ok l k2 => exact prim_call h hns h2 htt htf h1 hx hl hq
      | false =>
        rw [if_neg (by simp)]
        exact prim_var h hns h2 htt htf h1 hl
    rw [if_neg h1]
    cases htm : tkIs T k tMinus with
    | true =>
      rw [if_pos (by simp)]
      cases hq : primP T E d (k + 1) with
      | bad c a => exact prim_neg_bad h hns h2 htt htf h1 htm hp hq
      | ok x k2 => exact prim_neg h hns h2 htt htf h1 htm hp hq
    | false =>
    cases htn : tkIs T k tNot with
    | true =>
      rw [if_pos (by simp)]
      cases hq : primP T E d (k + 1) with
      | bad c a => exact prim_not_bad h hns h2 htt htf h1 htm htn hp hq
      | ok x k2 => exact prim_not h hns h2 htt htf h1 htm htn hp hq
    | false =>
    rw [if_neg (by simp)]
    cases htl : tkIs T k tLeft with
    | true =>
      rw [if_pos rfl]
      cases hq : exprL T (primP T E d) 5 (k + 1) with
      | bad c a => exact prim_par_xbad h hns h2 htt htf h1 htm htn htl hx hq
      | ok x k1 =>
        show Calls _ _ _ _ (Does _ _ _ _ _ _ _ _ ((mustP T E tRight k1).bind fun _ k3 => .ok x k3))
        cases hq2 : mustP T E tRight k1 with
        | bad c a => exact prim_par_mbad h hns h2 htt htf h1 htm htn htl hx hq hq2
        | ok u k2 => exact prim_par_ok h hns h2 htt htf h1 htm htn htl hx hq hq2
    | false =>
    rw [if_neg (by simp)]
    cases htr : tkIs T k tRelease with
    | true =>
      rw [if_pos rfl]
      cases q0 : mustP T E tLeft (k + 1) with
      | bad c a => exact prim_rel0 h hns h2 htt htf h1 htm htn htl htr q0
      | ok u1 k1 =>
      show Calls _ _ _ _ (Does _ _ _ _ _ _ _ _ ((exprL T (primP T E d) 5 k1).bind _))
      cases q1 : exprL T (primP T E d) 5 k1 with
      | bad c a => exact prim_rel1 h hns h2 htt htf h1 htm htn htl htr hx q0 q1
      | ok x k2 =>
      show Calls _ _ _ _ (Does _ _ _ _ _ _ _ _ ((mustP T E tTo k2).bind _))
      cases q2 : mustP T E tTo k2 with
      | bad c a => exact prim_rel2 h hns h2 htt htf h1 htm htn htl htr hx q0 q1 q2
      | ok u3 k3 =>
      show Calls _ _ _ _ (Does _ _ _ _ _ _ _ _ ((labelP T E k3).bind _))
      cases q3 : labelP T E k3 with
      | bad c a => exact prim_rel3 h hns h2 htt htf h1 htm htn htl htr hx q0 q1 q2 q3
      | ok lb k4 =>
      show Calls _ _ _ _ (Does _ _ _ _ _ _ _ _ ((mustP T E tRight k4).bind _))
      cases q4 : mustP T E tRight k4 with
      | bad c a => exact prim_rel4 h hns h2 htt htf h1 htm htn htl htr hx q0 q1 q2 q3 q4
      | ok u5 k5 => exact prim_rel5 h hns h2 htt htf h1 htm htn htl htr hx q0 q1 q2 q3 q4
    | false =>
    rw [if_neg (by simp)]
    exact prim_fail h hns h2 htt htf h1 htm htn htl htr
/-- The reader's expr(1), from the outside. -/
theorem exprTop_calls (hlev : LevelC) (hato : AtoiC T) : ReadsEx B T E tv dp 0 55 #[.pointer (some ⟨B, 0, none⟩), .int .i64 1] (exprL T (primP T E 12) 5) :=
  expr_one hlev (primP_mono 12) (primary_calls hlev hato 12 0 rfl)
end
end Go.Proofs.YtmepcmnpmhhiiaaGreatDoor
namespace Go.Proofs.YtmepcmnpmhhiiaaGreatDoor
open Go.RowKit
set_option linter.unusedVariables false
set_option linter.unusedSimpArgs false

theorem decFrom_digits : ∀ (l : List UInt8) (acc : Nat), (∀ b ∈ l, digitB b.toNat = true) → Lib.decFrom acc l = some (l.foldl (fun n b => n * 10 + (b.toNat - 48)) acc) := by
  intro l
  induction l with
  | nil => intro acc _; rfl
  | cons b l ih =>
    intro acc h
    have hb := h b (by simp)
    unfold digitB at hb
    simp at hb
    have e : Lib.digitVal b = some (b.toNat - 48) := by unfold Lib.digitVal; rw [if_pos (by omega)]
    simp only [Lib.decFrom, e, List.foldl_cons]
    exact ih _ fun c hc => h c (by simp [hc])
theorem num_atoi {r u : List UInt8} {c : UInt8} {t : Txt} (e : r = c :: u) (h : stepB r = .tok 2 t) : t.size ≤ 9 ∧ Lib.atoi t.data.toList = some (numT t) := by
  obtain ⟨_, h⟩ := (step_ways e).1 h
  rcases h with ⟨_, h⟩ | ⟨h1, h2, h⟩ | ⟨_, _, h⟩
  · unfold wordOf at h
    split at h
    · injection h with a b; cases a
    · split at h
      · injection h with a b; cases a
      · cases h
  · have ht := numOf_tok h
    unfold numOf at h
    split at h
    · cases h
    · rename_i h9
      rw [← ht] at h9
      refine ⟨by omega, ?_⟩
      have hl : t.data.toList = runB digitB r := by rw [ht]; rfl
      have hd : ∀ b ∈ t.data.toList, digitB b.toNat = true := fun b hb => by rw [hl] at hb; exact tw_mem hb
      have hc : ∃ l, t.data.toList = c :: l := by
        rw [hl, e]
        unfold runB
        rw [List.takeWhile_cons, if_pos h2]
        exact ⟨_, rfl⟩
      obtain ⟨l, hl2⟩ := hc
      have hcd := hd c (by rw [hl2]; simp)
      unfold digitB at hcd
      simp at hcd
      have n1 : (c == 45) = false := beq_false_of_ne (fun e => by subst e; simp at hcd)
      have n2 : (c == 43) = false := beq_false_of_ne (fun e => by subst e; simp at hcd)
      have hf := decFrom_digits t.data.toList 0 hd
      unfold numT
      have e2 : t.toList = t.data.toList := ByteArray.toList_eq t
      rw [e2]
      generalize hL : t.data.toList = L at *
      subst hl2
      simp only [Lib.atoi, n1, n2, Bool.false_eq_true, if_false, Lib.decNat, List.isEmpty_cons, hf, Option.map_some]
  · have := (signsFind_tok h).1
    cases this
theorem atoi_calls {s : Txt} {T : List Tok} (hT : ∀ t ∈ T, Stands s t) : AtoiC T := by
  intro k hk W
  have hlt : k < T.length := kind_lt (by omega)
  have ht := hT _ (List.getElem_mem hlt)
  rw [← tkNext_lt hlt] at ht
  obtain ⟨p, h1, h2, h3, h4, h5⟩ := ht
  rw [hk] at h3
  obtain ⟨h6, h7⟩ := num_atoi (rest_cons h1) h3
  refine (Tryz.strconv_Atoi _ _ (by omega) h7 W).mono ?_
  rintro e w' ⟨rfl, t, rfl⟩
  exact ⟨rfl, Lib.bytesWorld_below _ _ _⟩
end Go.Proofs.YtmepcmnpmhhiiaaGreatDoor
namespace Go.Proofs.YtmepcmnpmhhiiaaGreatDoor
open Go.RowKit Go.Maps
set_option linter.unusedVariables false
set_option linter.unusedSimpArgs false

theorem tok_one : ∀ {w : World} {x : Tok} {vs : List Value}, tokE w x vs → ∀ u ∈ vs, u.oneCell' = true := by
  intro w x vs h
  obtain ⟨us, us', e1, e2, us2, us3, e3, e4, e5⟩ := h
  have e2' : us = [.int .i64 x.1] := e2
  have e4' : us2 = [.int .i64 x.2.1] := e4
  have e5' : us3 = [.string x.2.2] := e5
  subst e2' e4' e5' e3 e1
  intro u hu
  simp at hu
  rcases hu with rfl | rfl | rfl <;> rfl
theorem toks_one : ∀ {w : World} {T : List Tok} {vs : List Value}, Rows tokE 3 w T vs → ∀ u ∈ vs, u.oneCell' = true := by
  intro w T
  induction T with
  | nil => intro vs h u hu; simp [Rows] at h; subst h; cases hu
  | cons x T ih =>
    intro vs h u hu
    obtain ⟨a, b, rfl, h1, h2, h3⟩ := h
    rcases List.mem_append.1 hu with hu | hu
    · exact tok_one h1 u hu
    · exact ih h3 u hu
theorem toks_any : ∀ {w w' : World} {T : List Tok} {vs : List Value}, Rows tokE 3 w T vs → Rows tokE 3 w' T vs := by
  intro w w' T
  induction T with
  | nil => intro vs h; exact h
  | cons x T ih =>
    intro vs h
    obtain ⟨a, b, e, h1, h2, h3⟩ := h
    exact ⟨a, b, e, h1, h2, ih h3⟩
set_option maxRecDepth 100000 in
theorem cloneTok_calls (T : List Tok) (v : Value) (w : World) (h : Toks w T v) (hn : T.length ≤ 600) :
    Calls Tryz.prog 126 #[v] w fun e w' => ∃ v', e = .returned v' ∧ Toks (hide (fun b => decide (b < w.heap.size)) w') T v' ∧ Below w.heap.size w w' := by
  obtain ⟨t0, hi, hz0, hz1, hz2⟩ := info_parts Tryz.info_token
  obtain ⟨p, c, vs, rfl, hlc, hcm, hr, hp, hx⟩ := SliceOf.rows (by decide) h
  have q25 : ∀ (w : World) (a : Option Addr) (n c n' c' : Nat), (binOp .eql 79 (.slice a n c) (.slice none n' c')).run Tryz.prog w = .ok (.bool a.isNone) w := fun w a n c n' c' => Lib.run_eql_slice_nil w _ _ a n c n' c' Tryz.underlying79
  cases p with
  | none =>
    have h0 := hp rfl
    have hx0 : T = [] := List.eq_nil_of_length_eq_zero h0
    subst hx0
    clear hx hp hr
    go_enter Tryz.func126, Tryz.ntmps126
    go_wp2
    go_ret
    exact ⟨_, rfl, ⟨none, 0, rfl, Nat.le_refl _, by unfold maxLen; decide, .inl rfl⟩, Below.refl _ _⟩
  | some ad =>
    have hx' : ∀ (j : Nat) (u : Value), vs[j]? = some u → w.cell? (ad.add j) = some u := hx ad rfl
    have HX := Lib.hid hx'
    have hvl := hr.length
    have h1 := toks_one hr
    have HR := Lib.hid hr
    have HVL := Lib.hid hvl
    have H1 := Lib.hid h1
    clear hx hx' hp hr hvl h1
    go_enter Tryz.func126, Tryz.ntmps126
    go_wp2_with (at_builtin; refine wpList_append_own _ rfl _ _ 79 rfl w.heap.size 153 t0 (.agg #[.int .i64 0, .int .i64 0, .string ByteArray.empty]) 3 32 Tryz.underlying79 hi hz0 hz1 hz2 rfl (by decide) _ _ _ rfl (World.ownsRow_made w #[] 0 (Nat.le_refl _) (Nat.zero_le _) (by simp)) ad T.length c vs rfl HVL.out ?qc2 H1.out ?qc4 ?qc5 ?qc6 ?_)
    case qc2 =>
      intro j u hj
      exact Lib.cell?_alloc_some _ (HX.out j u hj)
    case qc4 => unfold maxLen; omega
    case qc5 => omega
    case qc6 => simp
    intro v' w1 hown hgrow _
    have hB : Below w.heap.size w w1 := ((Below.refl _ w).alloc (Nat.le_refl _) _).grown hgrow (by simp) (by intro k hk; simp [Value.ownBlock] at hk; omega)
    have hS : Toks (hide (fun b => decide (b < w.heap.size)) w1) T v' := SliceOf.of_rows (own_hide (by simpa using hown) fun g hg => decide_eq_false (by omega)) (toks_any HR.out)
    have HB := Lib.hid hB
    have HS := Lib.hid hS
    clear hown hgrow hB hS
    go_wp2
    go_ret
    exact ⟨_, rfl, HS.out, HB.out⟩
end Go.Proofs.YtmepcmnpmhhiiaaGreatDoor
namespace Go.Proofs.YtmepcmnpmhhiiaaGreatDoor
open Go.RowKit Go.Maps
set_option linter.unusedVariables false
set_option linter.unusedSimpArgs false

/-- Behind a deferred call that has recovered. -/
def PostS (P : Program) (fn : Func) (c₀ : Frame) (cs : List Frame) (R : Ending → FrameMode → World → Prop) (cs' : List Frame) : Exit → Act → World → Prop := fun e a w => bodyPostS P fn c₀ cs R e a cs' w
theorem wpS_post {P : Program} {fn : Func} {c₀ : Frame} {cs cs' : List Frame} {R : Ending → FrameMode → World → Prop} {c : Code} {a : Act} {w : World} (h : c.wp P (PostS P fn c₀ cs R cs') a w) : c.wpS P (bodyPostS P fn c₀ cs R) a cs' w := wpS_of_wp h
set_option maxRecDepth 100000 in
theorem catch_idle (n4 n5 : Nat) (W : World) :
    CallsD Tryz.prog 135 #[.pointer (some ⟨n4, 0, none⟩), .pointer (some ⟨n5, 0, none⟩)] .returning W fun e u' w' => e = .returned (.tuple #[]) ∧ u' = .returning ∧ w' = W := by
  refine callsD_of_wpS Tryz.func135 rfl fun c₀ cs hu => ?_
  apply wpS_seq
  apply wpS_region
  simp [wpOpsS, go_sem, recoverD, hu, Tryz.ntmps135, Exit.thenS]
  simp only [Array.replicate_succ, Array.replicate_zero, List.push_toArray, List.append_toArray, List.nil_append, List.cons_append, List.setIfInBounds_toArray, List.set_cons_zero, List.set_cons_succ]
  refine wpS_post ?_
  go_wp2_with (fail)
  refine ⟨rfl, .returning, ?_, .tuple #[], results_none rfl _ _ _, rfl, rfl, rfl⟩
  cases c₀
  simp_all
set_option maxHeartbeats 1000000 in
set_option maxRecDepth 100000 in
theorem catch_stop (n4 n5 : Nat) (W : World) (c a c0 a0 : Int) (x0 x1 x2 x3 x4 x5 x6 : Value) (h4 : Blk W n4 [x0, x1, x2, x3, x4, x5, x6] 26) (h5 : Blk W n5 [.int .i64 c0, .int .i64 a0] 35) (hne : n4 ≠ n5) :
    CallsD Tryz.prog 135 #[.pointer (some ⟨n4, 0, none⟩), .pointer (some ⟨n5, 0, none⟩)] (.panicking [{ v := stopV c a, recovered := false }]) W fun e u' w' => e = .returned (.tuple #[]) ∧ u' = .panicking [{ v := stopV c a, recovered := true }] ∧
      (Blk w' n4 zeroC 26 ∧ Blk w' n5 [.int .i64 c, .int .i64 a] 35 ∧ ∀ n w0, n ≤ n4 → n ≤ n5 → n ≤ W.heap.size → Below n w0 W → Below n w0 w') := by
  have hta : ∀ (w : World), (Instr.typeAssert (.iface 160 (.agg #[.int .i64 c, .int .i64 a])) 20 160 true).run Tryz.prog w = .ok (.tuple #[.agg #[.int .i64 c, .int .i64 a], .bool true]) w := fun _ => rfl
  obtain ⟨q0, q1, q2, q3, q4, q5, q6⟩ := h4.cells7
  obtain ⟨f0, f1, f2, f3, f4, f5, f6⟩ := h4.fz7
  have g0 := h5.cell 0
  have g1 := h5.cell 1
  have k0 := h5.fz 0
  have k1 := h5.fz 1
  refine callsD_of_wpS Tryz.func135 rfl fun c₀ cs hu => ?_
  apply wpS_seq
  apply wpS_region
  simp [wpOpsS, go_sem, recoverD, hu, Tryz.ntmps135, Exit.thenS, stopV]
  simp only [Array.replicate_succ, Array.replicate_zero, List.push_toArray, List.append_toArray, List.nil_append, List.cons_append, List.setIfInBounds_toArray, List.set_cons_zero, List.set_cons_succ]
  refine wpS_post ?_
  obtain ⟨W2, eW⟩ : ∃ W2, (W.alloc (.cells #[.int .i64 c, .int .i64 a] 160)).alloc (.cells #[.int .i64 0, .int .i64 0, .int .i64 0, .int .i64 0, .string ⟨#[]⟩, .slice none 0 0, .slice none 0 0] 26) = W2 := ⟨_, rfl⟩
  obtain ⟨z2, hb2, m0, m1⟩ := boxes2 eW
  have HN : Hid (n4 < W.heap.size ∧ n5 < W.heap.size ∧ n4 ≠ n5) := ⟨h4.lt, h5.lt, hne⟩
  have HS0 : Hid (∀ V : World, (∀ b, b = W.heap.size ∨ b = W.heap.size + 1 → V.heap[b]? = W2.heap[b]?) → (V.cell? ⟨W.heap.size, 0, none⟩ = some (.int .i64 c) ∧ V.cell? ⟨W.heap.size, 1, none⟩ = some (.int .i64 a) ∧ V.cell? ⟨W.heap.size + 1, 0, none⟩ = some (.int .i64 0) ∧ V.cell? ⟨W.heap.size + 1, 1, none⟩ = some (.int .i64 0) ∧ V.cell? ⟨W.heap.size + 1, 2, none⟩ = some (.int .i64 0) ∧ V.cell? ⟨W.heap.size + 1, 3, none⟩ = some (.int .i64 0) ∧ V.cell? ⟨W.heap.size + 1, 4, none⟩ = some (.string ⟨#[]⟩) ∧ V.cell? ⟨W.heap.size + 1, 5, none⟩ = some (.slice none 0 0) ∧ V.cell? ⟨W.heap.size + 1, 6, none⟩ = some (.slice none 0 0))) := fun V h => by
    have a0 : ∀ o, V.cell? ⟨W.heap.size, o, none⟩ = _ := fun o => (World.cell?_of_block (a := ⟨W.heap.size, o, none⟩) (h _ (.inl rfl))).trans (m0 o)
    have a1 : ∀ o, V.cell? ⟨W.heap.size + 1, o, none⟩ = _ := fun o => (World.cell?_of_block (a := ⟨W.heap.size + 1, o, none⟩) (h _ (.inr rfl))).trans (m1 o)
    exact ⟨a0 0, a0 1, a1 0, a1 1, a1 2, a1 3, a1 4, a1 5, a1 6⟩
  have HB4 := Lib.hid ((h4.below hb2).below (below_drew1 W2))
  have HB5 := Lib.hid ((h5.below hb2).below (below_drew1 W2))
  have HC4 := Lib.hid (h4.below hb2)
  have HC5 := Lib.hid (h5.below hb2)
  have hn1 : ¬ n4 = n5 := hne
  have hn2 : ¬ n5 = n4 := fun e => hne e.symm
  have HBQ := Lib.hid hb2
  have HBW := Lib.hid (hb2.trans ((below_drew1 W2).mono hb2.size))
  have HV : Hid (∀ (V : World), V = sev W2 n4 (.int .i64 0) (.int .i64 0) (.int .i64 0) (.int .i64 0) (.string ⟨#[]⟩) (.slice none 0 0) (.slice none 0 0) → Blk V n4 zeroC 26 ∧ Blk V n5 [.int .i64 c0, .int .i64 a0] 35 ∧ (∀ b, b = W.heap.size ∨ b = W.heap.size + 1 → V.heap[b]? = W2.heap[b]?) ∧ ∀ n w0, n ≤ n4 → n ≤ W.heap.size → Below n w0 W → Below n w0 V) := fun V e => by
    subst e
    refine ⟨Blk.sev HC4.out, (sev_block HN.out.2.2).trans HC5.out, fun b hb => sev_block (by have h1 := HN.out; omega), fun n w0 h1 h2 h3 => ?_⟩
    have h4 := h3.trans (HBQ.out.mono h2)
    unfold sev
    exact (((((((h4.setCell h1 _).setCell h1 _).setCell h1 _).setCell h1 _).setCell h1 _).setCell h1 _).setCell h1 _)
  have HV5 : Hid (∀ (V V' : World), V = sev W2 n4 (.int .i64 0) (.int .i64 0) (.int .i64 0) (.int .i64 0) (.string ⟨#[]⟩) (.slice none 0 0) (.slice none 0 0) → ∀ u v, V' = (V.setCell ⟨n5, 0, none⟩ u).setCell ⟨n5, 1, none⟩ v → Blk V' n4 zeroC 26 ∧ Blk V' n5 [u, v] 35 ∧ (∀ b, b = W.heap.size ∨ b = W.heap.size + 1 → V'.heap[b]? = W2.heap[b]?) ∧ ∀ n w0, n ≤ n4 → n ≤ n5 → n ≤ W.heap.size → Below n w0 W → Below n w0 V') := fun V V' e u v e' => by
    obtain ⟨h1, h2, h3, h4⟩ := HV.out V e
    subst e'
    have hq : ∀ (X : World) (o : Nat) (x : Value) (b : Nat), b ≠ n5 → (X.setCell ⟨n5, o, none⟩ x).heap[b]? = X.heap[b]? := fun X o x b hb => Below.heap_setCell _ _ _ _ (by simpa using hb)
    refine ⟨(h1.other HN.out.2.2 _ _).other HN.out.2.2 _ _, ?_, fun b hb => ?_, fun n w0 k1 k2 k3 k4 => ((h4 n w0 k1 k3 k4).setCell k2 _).setCell k2 _⟩
    · have := (h2.set 0 u).set 1 v
      simpa using this
    · rw [hq _ _ _ _ (by have := HN.out; omega), hq _ _ _ _ (by have := HN.out; omega)]
      exact h3 b hb
  have HK1 := Lib.hid (HS0.out W2.drew (fun b _ => rfl))
  obtain ⟨V0, eV0⟩ : ∃ V0, sev W2 n4 (.int .i64 0) (.int .i64 0) (.int .i64 0) (.int .i64 0) (.string ⟨#[]⟩) (.slice none 0 0) (.slice none 0 0) = V0 := ⟨_, rfl⟩
  obtain ⟨V1, eV1⟩ : ∃ V1, (V0.setCell ⟨n5, 0, none⟩ (.int .i64 c)).setCell ⟨n5, 1, none⟩ (.int .i64 a) = V1 := ⟨_, rfl⟩
  have hv1 := HV5.out V0 V1 eV0.symm _ _ eV1.symm
  have HV1 : Hid (Blk V1.drew n4 zeroC 26 ∧ Blk V1.drew n5 [.int .i64 c, .int .i64 a] 35 ∧ ∀ n w0, n ≤ n4 → n ≤ n5 → n ≤ W.heap.size → Below n w0 W → Below n w0 V1.drew) := ⟨hv1.1, hv1.2.1, fun n w0 k1 k2 k3 k4 => (hv1.2.2.2 n w0 k1 k2 k3 k4).drew⟩
  have HK2 := HS0.out V0.drew (fun b hb => (HV.out V0 eV0.symm).2.2.1 b hb)
  have HK3 := HS0.out V1.drew (fun b hb => hv1.2.2.1 b hb)
  have EV1 := Lib.hid eV1
  have EV0 := Lib.hid eV0
  clear hv1
  rw [← eV1, ← eV0] at HK3
  rw [← eV0] at HK2
  clear eV1 eV0
  unfold sev at HK2 HK3
  replace HK2 := Lib.hid HK2
  replace HK3 := Lib.hid HK3
  clear q0 q1 q2 q3 q4 q5 q6 f0 f1 f2 f3 f4 f5 f6 g0 g1 k0 k1 h4 h5 hb2 m0 m1 z2 hne
  obtain ⟨q0, q1, q2, q3, q4, q5, q6⟩ := HC4.out.cells7
  obtain ⟨f0, f1, f2, f3, f4, f5, f6⟩ := HC4.out.fz7
  have g0 := HC5.out.cell 0
  have g1 := HC5.out.cell 1
  simp only [List.getElem?_cons_zero, List.getElem?_cons_succ] at g0 g1
  have k0 := HC5.out.fz 0
  have k1 := HC5.out.fz 1
  go_wp2_with (fail)
  refine wp_region_noPanic ?_
  refine wp_region_held_drew (S := fun w' => w'.cell? ⟨W.heap.size, 0, none⟩ = some (.int .i64 c) ∧ w'.cell? ⟨W.heap.size, 1, none⟩ = some (.int .i64 a) ∧ w'.cell? ⟨W.heap.size + 1, 0, none⟩ = some (.int .i64 0) ∧ w'.cell? ⟨W.heap.size + 1, 1, none⟩ = some (.int .i64 0) ∧ w'.cell? ⟨W.heap.size + 1, 2, none⟩ = some (.int .i64 0) ∧ w'.cell? ⟨W.heap.size + 1, 3, none⟩ = some (.int .i64 0) ∧ w'.cell? ⟨W.heap.size + 1, 4, none⟩ = some (.string ⟨#[]⟩) ∧ w'.cell? ⟨W.heap.size + 1, 5, none⟩ = some (.slice none 0 0) ∧ w'.cell? ⟨W.heap.size + 1, 6, none⟩ = some (.slice none 0 0)) (by kernel_rfl) ?_ (fun hHeld => ?_)
  · with_reducible exact HK1.out
  refine wpAnyH_take (i := 0) (v := ?v0x1) rfl (by kernel_rfl) (by kernel_rfl) (by kernel_rfl) (fun _ _ _ h => h) (Or.inl ⟨by rfl, ?h0x1⟩) (by assumption) ?r0x1
  case h0x1 => (intro w hSw; (try dsimp only at hSw); first | (go_simp; done) | (go_simp; with_reducible rfl))
  try simp only [Act.put, List.setIfInBounds_toArray, List.set_cons_zero, List.set_cons_succ]
  refine wpAnyH_take (i := 1) (v := ?v1x2) rfl (by kernel_rfl) (by kernel_rfl) (by kernel_rfl) (fun _ _ _ h => h) (Or.inl ⟨by rfl, ?h1x2⟩) (by assumption) ?r1x2
  case h1x2 => (intro w hSw; (try dsimp only at hSw); first | (go_simp; done) | (go_simp; with_reducible rfl))
  try simp only [Act.put, List.setIfInBounds_toArray, List.set_cons_zero, List.set_cons_succ]
  refine wpAnyH_take (i := 2) (v := ?v2x3) rfl (by kernel_rfl) (by kernel_rfl) (by kernel_rfl) (fun _ _ _ h => h) (Or.inl ⟨by rfl, ?h2x3⟩) (by assumption) ?r2x3
  case h2x3 => (intro w hSw; (try dsimp only at hSw); first | (go_simp; done) | (go_simp; with_reducible rfl))
  try simp only [Act.put, List.setIfInBounds_toArray, List.set_cons_zero, List.set_cons_succ]
  refine wpAnyH_ready (rs := [3]) (by kernel_rfl) (by simp) ?_
  refine AllReadyH.cons rfl (fun K hK => ?_) AllReadyH.nil
  go_simp
  refine hK.out _ _ ?_ (fun hHeld => ?_)
  · with_reducible exact HK2.out
  clear hK K
  try simp only [Act.put, List.setIfInBounds_toArray, List.set_cons_zero, List.set_cons_succ]
  refine wpAnyH_ready (rs := [4]) (by kernel_rfl) (by simp) ?_
  refine AllReadyH.cons rfl (fun K hK => ?_) AllReadyH.nil
  go_simp
  refine hK.out _ _ ?_ (fun hHeld => ?_)
  · with_reducible exact HK3.out
  clear hK K
  try simp only [Act.put, List.setIfInBounds_toArray, List.set_cons_zero, List.set_cons_succ]
  refine wpAnyH_done (by kernel_rfl) ?_ _
  refine NoPanic.normal ?_
  go_wp2_with (fail)
  refine ⟨rfl, .panicking [{ v := stopV c a, recovered := true }], ?_, .tuple #[], results_none rfl _ _ _, rfl, rfl, ?_⟩
  · rw [List.cons.injEq]
    refine ⟨?_, rfl⟩
    cases c₀
    simp_all [stopV]
  · have h1 := HV1.out
    rw [← EV1.out, ← EV0.out] at h1
    unfold sev at h1
    with_reducible exact h1
end Go.Proofs.YtmepcmnpmhhiiaaGreatDoor
namespace Go.Proofs.YtmepcmnpmhhiiaaGreatDoor
open Go.RowKit Go.Maps
set_option linter.unusedVariables false
set_option linter.unusedSimpArgs false

/-- What reading an expression comes to: it, and the fault. -/
def readX (s : Txt) : Ex × Int × Int :=
  if (scanOf s).2.1 = 0 then (match exprL (scanOf s).1 (primP (scanOf s).1 s.size 12) 5 0 with
    | .ok x k => if k < (scanOf s).1.length then (Ex.zero, 1, tkAt (scanOf s).1 s.size k) else (x, 0, 0)
    | .bad c a => (Ex.zero, c, a))
  else (Ex.zero, (scanOf s).2.1, (scanOf s).2.2)
set_option maxHeartbeats 2000000 in
set_option maxRecDepth 100000 in
theorem exprF_calls {w : World} {B : Nat} {T : List Tok} {E : Int} {tv : Value} {k dp ns : Nat} {p : Nat → Rs Ex} (hp : ReadsEx B T E tv dp ns 55 #[.pointer (some ⟨B, 0, none⟩), .int .i64 1] p) (h : Rdr w B T E tv k dp ns) :
    Calls Tryz.prog 54 #[.pointer (some ⟨B, 0, none⟩)] w (Does w B T E tv dp ns ExIs (p k)) := by
  obtain ⟨W1, eW⟩ : ∃ W1, w.alloc (.cells #[.int .i64 0, .int .i64 0, .int .i64 0, .int .i64 0, .string ⟨#[]⟩, .slice none 0 0, .slice none 0 0] 26) = W1 := ⟨_, rfl⟩
  have hB1 : Blk W1 w.heap.size zeroC 26 := by rw [← eW]; exact Blk.new _ _ _
  have hb1 : Below w.heap.size w W1 := by rw [← eW]; exact (Below.refl _ _).alloc (Nat.le_refl _) _
  have HN : Hid (w.heap.size < W1.heap.size) := hB1.lt
  have HNE : Hid (w.heap.size ≠ B) := by have := h.lt; unfold Hid; omega
  have HB1 := Lib.hid hB1
  have HA1 := Lib.hid (aside_below (B := B) hb1)
  have h1 := hp W1 k (h.below hb1)
  have H0 := Lib.hid h
  clear hB1 hb1 h hp
  cases hr : p k with
  | bad c a =>
    rw [hr] at h1
    have H1 := Lib.hid h1
    clear h1 hr
    go_enter Tryz.func54, Tryz.ntmps54
    go_wp2_with (fail)
    refine H1.out.mono ?_
    rintro e w2 ⟨ha, rfl, hlf⟩
    have HA := Lib.hid (HA1.out.trans ha)
    have HLF := Lib.hid hlf
    clear hlf ha
    go_wp2_with (fail)
    exact ⟨rfl, HA.out, rfl, HLF.out⟩
  | ok x k1 =>
    rw [hr] at h1
    have H1 := Lib.hid h1
    clear h1 hr
    go_enter Tryz.func54, Tryz.ntmps54
    go_wp2_with (fail)
    refine H1.out.mono ?_
    rintro e w2 ⟨ha, v2, rfl, hr2, hx2⟩
    have HA2 := Lib.hid (HA1.out.trans ha)
    have hB2 := HB1.out.aside ha HNE.out
    have HB2 := Lib.hid hB2
    have HR2 := Lib.hid hr2
    have HX2 := Lib.hid hx2
    obtain ⟨vl, va, rfl, hvl, hva⟩ := hx2
    obtain ⟨pl, cl, rfl, _⟩ := hvl
    obtain ⟨pa, ca, rfl, _⟩ := hva
    obtain ⟨c0, c1, c2, c3, c4, c5, c6⟩ := Blk.cells7 hB2
    obtain ⟨f0, f1, f2, f3, f4, f5, f6⟩ := Blk.fz7 hB2
    clear ha hB2 hr2 H1 eW
    go_wp2_with (fail)
    refine bodyPost_ret (v := .agg #[.int .i64 x.kind, .int .i64 x.at_, .int .i64 x.num, .int .i64 x.ty, .string x.name, .slice pl x.lab.length cl, .slice pa x.kids.length ca]) ?_ rfl ?_
    · obtain ⟨q0, q1, q2, q3, q4, q5, q6⟩ := (Blk.sev (a := .int .i64 x.kind) (b := .int .i64 x.at_) (c := .int .i64 x.num) (d := .int .i64 x.ty) (e := .string x.name) (f := .slice pl x.lab.length cl) (g := .slice pa x.kids.length ca) HB2.out).cells7
      unfold sev at q0 q1 q2 q3 q4 q5 q6
      simp [results, Tryz.results54, go_sem, q0, q1, q2, q3, q4, q5, q6]
    · have hA9 := aside_sev (a := .int .i64 x.kind) (b := .int .i64 x.at_) (c := .int .i64 x.num) (d := .int .i64 x.ty) (e := .string x.name) (f := .slice pl x.lab.length cl) (g := .slice pa x.kids.length ca) HA2.out (Nat.le_refl _)
      exact ⟨hA9, _, rfl, H0.out.via hA9 (sev_block HNE.out) HR2.out, HX2.out.stays ((since_sev HN.out).trans (since_mono _ (Nat.le_of_lt HN.out)))⟩
/-- What reading hands back. -/
def Reads (w : World) (r : Ex × Int × Int) (e : Ending) (w' : World) : Prop := ∃ v, e = .returned (.tuple #[v, .agg #[.int .i64 r.2.1, .int .i64 r.2.2]]) ∧ ExIs (since w.heap.size w') r.1 v ∧ Below w.heap.size w w'
theorem exIs_zero (W : World) : ExIs W Ex.zero (.agg #[.int .i64 0, .int .i64 0, .int .i64 0, .int .i64 0, .string ⟨#[]⟩, .slice none 0 0, .slice none 0 0]) := exIs_leaf W 0 0 0 0 _
/-- Behind a fault: what is deferred hands back nothing, and the fault. -/
theorem reads_bad {w W : World} {tmps : Array Value} {c a c0 a0 : Int} {x0 x1 x2 x3 x4 x5 x6 : Value} (ht4 : tmps[4]? = some (.pointer (some ⟨w.heap.size, 0, none⟩))) (ht5 : tmps[5]? = some (.pointer (some ⟨w.heap.size + 1, 0, none⟩)))
    (hb : Below w.heap.size w W) (h4 : Blk W w.heap.size [x0, x1, x2, x3, x4, x5, x6] 26) (h5 : Blk W (w.heap.size + 1) [.int .i64 c0, .int .i64 a0] 35) :
    Leaves Tryz.prog Tryz.f53 tmps (Reads w (Ex.zero, c, a)) [{ target := .fn (.func 135) #[.pointer (some ⟨w.heap.size, 0, none⟩), .pointer (some ⟨w.heap.size + 1, 0, none⟩)], args := #[] }] (.panicking [{ v := stopV c a, recovered := false }]) W := by
  refine leaves_cons (f := 135) (args := #[.pointer (some ⟨w.heap.size, 0, none⟩), .pointer (some ⟨w.heap.size + 1, 0, none⟩)]) (by simp) (by simp [go_sem]) ?_
  refine (catch_stop w.heap.size (w.heap.size + 1) W c a c0 a0 x0 x1 x2 x3 x4 x5 x6 h4 h5 (by omega)).mono ?_
  rintro e u' w'' ⟨rfl, rfl, g4, g5, g6⟩
  obtain ⟨q0, q1, q2, q3, q4, q5, q6⟩ := g4.cells7
  have r0 := g5.cell 0
  have r1 := g5.cell 1
  simp only [List.getElem?_cons_zero, List.getElem?_cons_succ] at r0 r1
  refine ⟨.tuple #[.agg #[.int .i64 0, .int .i64 0, .int .i64 0, .int .i64 0, .string ⟨#[]⟩, .slice none 0 0, .slice none 0 0], .agg #[.int .i64 c, .int .i64 a]], ?_, _, rfl, exIs_zero _, g6 _ _ (Nat.le_refl _) (by omega) hb.size hb⟩
  simp [results, Tryz.results53, go_sem, ht4, ht5, q0, q1, q2, q3, q4, q5, q6, r0, r1]
/-- All well. -/
theorem reads_ok {w W : World} {tmps : Array Value} {c a : Int} {x : Ex} {x0 x1 x2 x3 x4 x5 x6 : Value} (ht4 : tmps[4]? = some (.pointer (some ⟨w.heap.size, 0, none⟩))) (ht5 : tmps[5]? = some (.pointer (some ⟨w.heap.size + 1, 0, none⟩)))
    (hb : Below w.heap.size w W) (h4 : Blk W w.heap.size [x0, x1, x2, x3, x4, x5, x6] 26) (h5 : Blk W (w.heap.size + 1) [.int .i64 c, .int .i64 a] 35) (hx : ExIs (since w.heap.size W) x (.agg #[x0, x1, x2, x3, x4, x5, x6])) :
    Leaves Tryz.prog Tryz.f53 tmps (Reads w (x, c, a)) [{ target := .fn (.func 135) #[.pointer (some ⟨w.heap.size, 0, none⟩), .pointer (some ⟨w.heap.size + 1, 0, none⟩)], args := #[] }] .returning W := by
  refine leaves_cons (f := 135) (args := #[.pointer (some ⟨w.heap.size, 0, none⟩), .pointer (some ⟨w.heap.size + 1, 0, none⟩)]) (by simp) (by simp [go_sem]) ?_
  refine (catch_idle w.heap.size (w.heap.size + 1) W).mono ?_
  rintro e u' w'' ⟨rfl, rfl, rfl⟩
  obtain ⟨q0, q1, q2, q3, q4, q5, q6⟩ := h4.cells7
  have r0 := h5.cell 0
  have r1 := h5.cell 1
  simp only [List.getElem?_cons_zero, List.getElem?_cons_succ] at r0 r1
  refine ⟨.tuple #[.agg #[x0, x1, x2, x3, x4, x5, x6], .agg #[.int .i64 c, .int .i64 a]], ?_, _, rfl, hx, hb⟩
  simp [results, Tryz.results53, go_sem, ht4, ht5, q0, q1, q2, q3, q4, q5, q6, r0, r1]
/-- No scan. -/
theorem reads_none {w W : World} {tmps : Array Value} {c a : Int} {x : Ex} {x0 x1 x2 x3 x4 x5 x6 : Value} (ht4 : tmps[4]? = some (.pointer (some ⟨w.heap.size, 0, none⟩))) (ht5 : tmps[5]? = some (.pointer (some ⟨w.heap.size + 1, 0, none⟩)))
    (hb : Below w.heap.size w W) (h4 : Blk W w.heap.size [x0, x1, x2, x3, x4, x5, x6] 26) (h5 : Blk W (w.heap.size + 1) [.int .i64 c, .int .i64 a] 35) (hx : ExIs (since w.heap.size W) x (.agg #[x0, x1, x2, x3, x4, x5, x6])) :
    Leaves Tryz.prog Tryz.f53 tmps (Reads w (x, c, a)) [] .returning W := by
  obtain ⟨q0, q1, q2, q3, q4, q5, q6⟩ := h4.cells7
  have r0 := h5.cell 0
  have r1 := h5.cell 1
  simp only [List.getElem?_cons_zero, List.getElem?_cons_succ] at r0 r1
  refine ⟨.tuple #[.agg #[x0, x1, x2, x3, x4, x5, x6], .agg #[.int .i64 c, .int .i64 a]], ?_, _, rfl, hx, hb⟩
  simp [results, Tryz.results53, go_sem, ht4, ht5, q0, q1, q2, q3, q4, q5, q6, r0, r1]
end Go.Proofs.YtmepcmnpmhhiiaaGreatDoor
namespace Go.Proofs.YtmepcmnpmhhiiaaGreatDoor
open Go.RowKit Go.Maps
set_option linter.unusedVariables false
set_option linter.unusedSimpArgs false

theorem since_below {n : Nat} {w w' : World} (hb : Below w.heap.size w w') : Keeps (since n w) (since n w') := keeps_hide hb.size fun b h hp => ⟨hp, hb.block b h⟩
theorem sev_side (w : World) (n : Nat) (a b c d e f g : Value) : Aside1 n w (sev w n a b c d e f g) :=
  ((((((aside_set 0 a).trans (aside_set 1 b)).trans (aside_set 2 c)).trans (aside_set 3 d)).trans (aside_set 4 e)).trans (aside_set 5 f)).trans (aside_set 6 g)
theorem keep8 {n B : Nat} {w5 W8 : World} (hB : w5.heap.size ≤ B) (hs : w5.heap.size ≤ W8.heap.size) (h : ∀ b, n ≤ b → b < w5.heap.size → W8.heap[b]? = w5.heap[b]?) : Keeps (since n w5) (mask B W8) :=
  ⟨by rw [hide_size, mask_size]; exact hs, fun b o v hv => by
    rw [hide_cell] at hv
    split at hv
    · cases hv
    · rename_i hp
      have hb := cell_lt hv
      simp at hp
      rw [mask_cell, if_neg (by omega), World.cell?_of_block (a := ⟨b, o, none⟩) (h b (by omega) hb)]
      exact hv⟩
set_option maxHeartbeats 4000000 in
set_option maxRecDepth 100000 in
theorem readX_calls (s : Txt) (w : World) (ht : Tab w) : Calls Tryz.prog 53 #[.string s, .func (.func 54) #[] #[]] w (Reads w (readX s)) := by
  have hmf : ∀ (fn : Fn) (first cap : Array Value) (w : World), (Instr.makeFunc fn first cap).run Tryz.prog w = .ok (.func fn first cap) w := fun _ _ _ _ => rfl
  have eg : ∀ args w, (callFunc 54 args).run Tryz.prog w = .ok (.enter 54 args) w := enters_at Tryz.func54 (by kernel_rfl) rfl
  obtain ⟨W2, eW⟩ : ∃ W2, (w.alloc (.cells #[.int .i64 0, .int .i64 0, .int .i64 0, .int .i64 0, .string ⟨#[]⟩, .slice none 0 0, .slice none 0 0] 26)).alloc (.cells #[.int .i64 0, .int .i64 0] 35) = W2 := ⟨_, rfl⟩
  obtain ⟨z2, hb2, m0, m1⟩ := boxes2 eW
  have hB2 : Blk W2 w.heap.size zeroC 26 := by rw [← eW]; exact (Blk.new _ _ _).below ((Below.refl _ _).alloc (Nat.le_refl _) _)
  have hC2 : Blk W2 (w.heap.size + 1) [.int .i64 0, .int .i64 0] 35 := by rw [← eW]; exact Blk.new2 _ _ _ _ _
  have HB2 := Lib.hid hb2
  have HSC := Lib.hid (scan_calls s W2)
  have HE2 := Lib.hid hB2
  have HF2 := Lib.hid hC2
  have HTB := Lib.hid ht
  clear hb2 m0 m1 z2 hB2 hC2 ht
  by_cases hc : (scanOf s).2.1 = 0
  · obtain ⟨T, hT⟩ : ∃ T, scanOf s = (T, 0, 0) := by
      refine ⟨(scanOf s).1, ?_⟩
      have h1 : scanOf s = ((scanOf s).1, 0, (scanOf s).2.2) := by rw [← hc]
      have h2 := scanOf_zero h1
      rw [h2] at h1
      exact h1
    obtain ⟨hs4, hT6, hST⟩ := scanOf_stands hT
    have HRX : Hid (readX s = match exprL T (primP T s.size 12) 5 0 with
      | .ok x k => if k < T.length then (Ex.zero, 1, tkAt T s.size k) else (x, 0, 0)
      | .bad c a => (Ex.zero, c, a)) := by unfold Hid readX; rw [if_pos hc, hT]; try rfl
    rw [hT] at HSC
    have HST := Lib.hid hST
    have HT6 := Lib.hid hT6
    have HS4 := Lib.hid hs4
    clear hc hT hs4 hT6 hST
    have HSC2 : Hid (Calls Tryz.prog 45 #[.string s] W2 fun e w' => ∃ y, e = .returned (.tuple #[y, .agg #[.int .i64 0, .int .i64 0]]) ∧ Toks w' T y ∧ Below W2.heap.size W2 w') := HSC.out
    clear HSC
    go_enter_defers Tryz.func53, Tryz.ntmps53
    go_wp2_with (fail)
    clear eW
    refine HSC2.out.mono ?_
    rintro e w3 ⟨y, rfl, hy, hb3⟩
    have HE3 := Lib.hid (HE2.out.below hb3)
    have HF3 := Lib.hid (HF2.out.below hb3)
    have HB3 := Lib.hid (HB2.out.trans (hb3.mono HB2.out.size))
    have HCL := Lib.hid (cloneTok_calls T y w3 hy HT6.out)
    have r0 := HF3.out.cell 0
    have r1 := HF3.out.cell 1
    simp only [List.getElem?_cons_zero, List.getElem?_cons_succ] at r0 r1
    have k0 := HF3.out.fz 0
    have k1 := HF3.out.fz 1
    have s7 := HF3.out.same (i := 0) rfl
    have s8 := HF3.out.same (i := 1) rfl
    obtain ⟨_, _, cy, py, rfl, _⟩ := hy.cells
    clear hb3 hy HSC2
    go_wp2_with (fail)
    refine HCL.out.mono ?_
    rintro e w5 ⟨v5, rfl, ht5, hb5⟩
    obtain ⟨_, _, c5, p5, rfl, _⟩ := ht5.cells
    have HTK := Lib.hid ht5
    have HB35 : Hid (w3.heap.size ≤ w5.heap.size ∧ w.heap.size + 1 < w3.heap.size) := ⟨hb5.size, HF3.out.lt⟩
    replace ht5 := ht5.stays (hide_keeps _ _)
    obtain ⟨W6, eW6⟩ : ∃ W6, w5.alloc (.cells #[.slice p5 T.length c5, .int .i64 0, .int .i64 s.size, .int .i64 0, .int .i64 0] 164) = W6 := ⟨_, rfl⟩
    have hb6 : Below w5.heap.size w5 W6 := by rw [← eW6]; exact (Below.refl _ _).alloc (Nat.le_refl _) _
    have hB6 : Blk W6 w5.heap.size [.slice p5 T.length c5, .int .i64 0, .int .i64 s.size, .int .i64 0, .int .i64 0] 164 := by rw [← eW6]; exact Blk.new _ _ _
    have hb56 := hb5.trans (hb6.mono hb5.size)
    have HRD : Hid (Rdr W6 w5.heap.size T s.size (.slice p5 T.length c5) 0 0 0) := ⟨hB6, ht5.stays (mask_new (Nat.le_refl _) hb6), tab_mask (HTB.out.below (HB3.out.trans (hb5.mono HB3.out.size))) (Nat.le_refl _) hb6⟩
    have HW65 : Hid (w5.heap.size ≤ W6.heap.size) := hb6.size
    have HW6B : Hid (∀ b, b < w5.heap.size → W6.heap[b]? = w5.heap[b]?) := fun b h => hb6.block b h
    have HB6 := Lib.hid (HB3.out.trans (hb56.mono HB3.out.size))
    have HE6 := Lib.hid (HE3.out.below hb56)
    have HF6 := Lib.hid (HF3.out.below hb56)
    have HN5 : Hid (w.heap.size + 1 < w5.heap.size) := by have h1 := HF3.out.lt; have h2 := hb5.size; unfold Hid; omega
    have HXC := Lib.hid (exprF_calls (exprTop_calls level_calls (atoi_calls HST.out)) HRD.out)
    clear hb5 hb6 hb56 hB6 ht5 r0 r1 k0 k1 s7 s8 HCL
    cases hr : exprL T (primP T s.size 12) 5 0 with
    | bad c a =>
      rw [hr] at HXC HRX
      have HRY : Hid (readX s = (Ex.zero, c, a)) := HRX.out
      clear hr HRX
      go_wp2_with (fail)
      refine HXC.out.mono ?_
      rintro e w7 ⟨ha, rfl, hlf⟩
      have HB7 := Lib.hid (below_of_aside HB6.out (Nat.le_of_lt (Nat.lt_trans (Nat.lt_succ_self _) HN5.out)) ha)
      have HE7 := Lib.hid (HE6.out.aside ha (by have h1 := HN5.out; omega))
      have HF7 := Lib.hid (HF6.out.aside ha (by have h1 := HN5.out; omega))
      clear ha hlf eW6
      go_wp2_with (fail)
      rw [HRY.out]
      exact reads_bad rfl rfl HB7.out HE7.out HF7.out
    | ok x k =>
      rw [hr] at HXC HRX
      have HRY : Hid (readX s = if k < T.length then (Ex.zero, 1, tkAt T s.size k) else (x, 0, 0)) := HRX.out
      clear hr HRX
      go_wp2_with (fail)
      refine HXC.out.mono ?_
      rintro e w7 ⟨ha, v7, rfl, hr7, hx7⟩
      have HB7 := Lib.hid (below_of_aside HB6.out (Nat.le_of_lt (Nat.lt_trans (Nat.lt_succ_self _) HN5.out)) ha)
      have hE7 := HE6.out.aside ha (by have h1 := HN5.out; omega)
      have HE7 := Lib.hid hE7
      have HF7 := Lib.hid (HF6.out.aside ha (by have h1 := HN5.out; omega))
      have HX7 := Lib.hid hx7
      have HA7 := Lib.hid ha
      have HR7 := Lib.hid hr7
      obtain ⟨vl, va, rfl, hvl, hva⟩ := hx7
      obtain ⟨pl, cl, rfl, _⟩ := hvl
      obtain ⟨pa, ca, rfl, _⟩ := hva
      obtain ⟨q0, q1, q2, q3, q4, q5, q6⟩ := hE7.cells7
      obtain ⟨f0, f1, f2, f3, f4, f5, f6⟩ := hE7.fz7
      obtain ⟨W8, eW8⟩ : ∃ W8, sev w7 w.heap.size (.int .i64 x.kind) (.int .i64 x.at_) (.int .i64 x.num) (.int .i64 x.ty) (.string x.name) (.slice pl x.lab.length cl) (.slice pa x.kids.length ca) = W8 := ⟨_, rfl⟩
      have hA8 : Aside1 w.heap.size w7 W8 := by rw [← eW8]; exact sev_side _ _ _ _ _ _ _ _ _
      have HB8 : Hid (Blk W8 w.heap.size [.int .i64 x.kind, .int .i64 x.at_, .int .i64 x.num, .int .i64 x.ty, .string x.name, .slice pl x.lab.length cl, .slice pa x.kids.length ca] 26) := by rw [← eW8]; exact Blk.sev hE7
      have hq8 : ∀ b, b ≠ w.heap.size → W8.heap[b]? = w7.heap[b]? := fun b hb => by rw [← eW8]; exact sev_block (fun e => hb e.symm)
      have HC8 : Hid (Blk W8 (w.heap.size + 1) [.int .i64 0, .int .i64 0] 35) := (hq8 _ (by omega)).trans HF7.out
      have HW8 : Hid (Below w.heap.size w W8) := ⟨hA8.os.trans HB7.out.os, hA8.tape.trans HB7.out.tape, hA8.output.trans HB7.out.output, Nat.le_trans HB7.out.size hA8.size, fun i hi => (hq8 i (by omega)).trans (HB7.out.block i hi)⟩
      have HX8 : Hid (ExIs (since w.heap.size W8) x (.agg #[.int .i64 x.kind, .int .i64 x.at_, .int .i64 x.num, .int .i64 x.ty, .string x.name, .slice pl x.lab.length cl, .slice pa x.kids.length ca])) := by
        have h1 := HX7.out.stays (show Keeps (since W6.heap.size w7) (since W6.heap.size W8) from keeps_hide hA8.size fun b hb hp => ⟨hp, hq8 b (by have h1 := HN5.out; have h2 := HRD.out.lt; simp at hp; omega)⟩)
        exact h1.stays (since_mono _ (by have h2 := HN5.out; have h3 := HRD.out.lt; omega))
      have HRD8 : Hid (Rdr W8 w5.heap.size T s.size (.slice p5 T.length c5) k 0 0) := ⟨(hq8 _ (by have h1 := HN5.out; omega)).trans hr7.blk,
        HTK.out.stays (keep8 (Nat.le_refl _) (by have h1 := HW65.out; have h2 := ha.size; have h3 := hA8.size; omega) fun b hb hb2 => (hq8 b (by have h1 := HB35.out; omega)).trans ((ha.block b (by have h1 := HW65.out; omega) (fun e => by simp at e; omega)).trans (HW6B.out b hb2))),
        tab_mask HTB.out (by have h1 := HN5.out; omega) HW8.out⟩
      have c1 := HRD8.out.c1
      have c0 := HRD8.out.c0
      unfold sev at eW8
      clear ha hr7 hE7 hA8 hq8 HXC eW6
      go_wp2_with (fail)
      clear eW8 q0 q1 q2 q3 q4 q5 q6 f0 f1 f2 f3 f4 f5 f6
      by_cases hk : k < T.length
      · have hki : (k : Int) < (T.length : Int) := by omega
        rw [if_pos hk] at HRY
        clear hk
        go_quiet (fail)
        obtain ⟨W9, e9⟩ : ∃ W9, W8.drewN nq = W9 := ⟨_, rfl⟩
        have hb9 : Below W8.heap.size W8 W9 := by rw [← e9]; exact below_drewN (Below.refl _ _) _
        have HFA := Lib.hid (fail_calls (HRD8.out.below hb9) 1)
        have HB9 := Lib.hid hb9
        rw [e9]
        clear e9 hb9 c0 c1
        go_wp2_with (fail)
        refine HFA.out.mono ?_
        rintro e w10 ⟨rfl, hb10⟩
        have hb810 := HB9.out.trans (hb10.mono HB9.out.size)
        have HZ1 := Lib.hid (HW8.out.trans (hb810.mono HW8.out.size))
        have HZ2 := Lib.hid (HB8.out.below hb810)
        have HZ3 := Lib.hid (HC8.out.below hb810)
        clear hb10 hb810
        go_wp2_with (fail)
        rw [HRY.out]
        exact reads_bad rfl rfl HZ1.out HZ2.out HZ3.out
      · have hki : ¬ (k : Int) < (T.length : Int) := by omega
        rw [if_neg hk] at HRY
        clear hk
        go_quiet (fail)
        obtain ⟨W9, e9⟩ : ∃ W9, W8.drewN nq = W9 := ⟨_, rfl⟩
        have hb9 : Below W8.heap.size W8 W9 := by rw [← e9]; exact below_drewN (Below.refl _ _) _
        have HZ1 := Lib.hid (HW8.out.trans (hb9.mono HW8.out.size))
        have HZ2 := Lib.hid (HB8.out.below hb9)
        have HZ3 := Lib.hid (HC8.out.below hb9)
        have HZX := Lib.hid (HX8.out.stays (since_below hb9))
        rw [e9]
        clear e9 hb9 c0 c1
        obtain ⟨q0, q1, q2, q3, q4, q5, q6⟩ := HZ2.out.cells7
        obtain ⟨f0, f1, f2, f3, f4, f5, f6⟩ := HZ2.out.fz7
        have r0 := HZ3.out.cell 0
        have r1 := HZ3.out.cell 1
        simp only [List.getElem?_cons_zero, List.getElem?_cons_succ] at r0 r1
        have k0 := HZ3.out.fz 0
        have k1 := HZ3.out.fz 1
        have s0 := HZ2.out.same (i := 0) rfl
        have s1 := HZ2.out.same (i := 1) rfl
        have s2 := HZ2.out.same (i := 2) rfl
        have s3 := HZ2.out.same (i := 3) rfl
        have s4 := HZ2.out.same (i := 4) rfl
        have s5 := HZ2.out.same (i := 5) rfl
        have s6 := HZ2.out.same (i := 6) rfl
        have s7 := HZ3.out.same (i := 0) rfl
        have s8 := HZ3.out.same (i := 1) rfl
        have HK := Lib.hid (show (W9.drew.cell? ⟨w.heap.size, 0, none⟩ = some (.int .i64 x.kind) ∧ W9.drew.cell? ⟨w.heap.size, 1, none⟩ = some (.int .i64 x.at_) ∧ W9.drew.cell? ⟨w.heap.size, 2, none⟩ = some (.int .i64 x.num) ∧ W9.drew.cell? ⟨w.heap.size, 3, none⟩ = some (.int .i64 x.ty) ∧ W9.drew.cell? ⟨w.heap.size, 4, none⟩ = some (.string x.name) ∧ W9.drew.cell? ⟨w.heap.size, 5, none⟩ = some (.slice pl x.lab.length cl) ∧ W9.drew.cell? ⟨w.heap.size, 6, none⟩ = some (.slice pa x.kids.length ca) ∧ W9.drew.cell? ⟨w.heap.size + 1, 0, none⟩ = some (.int .i64 0) ∧ W9.drew.cell? ⟨w.heap.size + 1, 1, none⟩ = some (.int .i64 0)) from ⟨q0, q1, q2, q3, q4, q5, q6, r0, r1⟩)
        go_wp2_with (fail)
        go_region_held3 (fun w' => w'.cell? ⟨w.heap.size, 0, none⟩ = some (.int .i64 x.kind) ∧ w'.cell? ⟨w.heap.size, 1, none⟩ = some (.int .i64 x.at_) ∧ w'.cell? ⟨w.heap.size, 2, none⟩ = some (.int .i64 x.num) ∧ w'.cell? ⟨w.heap.size, 3, none⟩ = some (.int .i64 x.ty) ∧ w'.cell? ⟨w.heap.size, 4, none⟩ = some (.string x.name) ∧ w'.cell? ⟨w.heap.size, 5, none⟩ = some (.slice pl x.lab.length cl) ∧ w'.cell? ⟨w.heap.size, 6, none⟩ = some (.slice pa x.kids.length ca) ∧ w'.cell? ⟨w.heap.size + 1, 0, none⟩ = some (.int .i64 0) ∧ w'.cell? ⟨w.heap.size + 1, 1, none⟩ = some (.int .i64 0))
          (with_reducible exact HK.out)
          (fail)
        all_goals go_wp2_with (fail)
        all_goals rw [HRY.out]
        all_goals exact reads_ok rfl rfl HZ1.out.drew HZ2.out HZ3.out (HZX.out.stays (since_below (below_drew1 _)))
  · have HRX : Hid (readX s = (Ex.zero, (scanOf s).2.1, (scanOf s).2.2)) := by unfold Hid readX; rw [if_neg hc]
    have hc1 : ((scanOf s).2.1 == 0) = false := beq_false_of_ne hc
    have hc2 : ((scanOf s).2.1 != 0) = true := by simp [hc]
    clear hc
    generalize (scanOf s).2.1 = c at *
    generalize (scanOf s).2.2 = a at *
    go_enter_defers Tryz.func53, Tryz.ntmps53
    go_wp2_with (fail)
    clear eW
    refine HSC.out.mono ?_
    rintro e w3 ⟨y, rfl, hy, hb3⟩
    have hF3 := HF2.out.below hb3
    have r0 := hF3.cell 0
    have r1 := hF3.cell 1
    simp only [List.getElem?_cons_zero, List.getElem?_cons_succ] at r0 r1
    have k0 := hF3.fz 0
    have k1 := hF3.fz 1
    obtain ⟨W4, eW4⟩ : ∃ W4, (w3.setCell ⟨w.heap.size + 1, 0, none⟩ (.int .i64 c)).setCell ⟨w.heap.size + 1, 1, none⟩ (.int .i64 a) = W4 := ⟨_, rfl⟩
    have HB4 : Hid (Blk W4 w.heap.size zeroC 26) := by rw [← eW4]; exact ((HE2.out.below hb3).other (by omega) _ _).other (by omega) _ _
    have HB5 : Hid (Blk W4 (w.heap.size + 1) [.int .i64 c, .int .i64 a] 35) := by rw [← eW4]; exact (hF3.set 0 (.int .i64 c)).set 1 (.int .i64 a)
    have HW4 : Hid (Below w.heap.size w W4) := by rw [← eW4]; exact ((HB2.out.trans (hb3.mono HB2.out.size)).setCell (show w.heap.size ≤ w.heap.size + 1 by omega) _).setCell (show w.heap.size ≤ w.heap.size + 1 by omega) _
    obtain ⟨_, _, cy, py, rfl, _⟩ := hy.cells
    have u0 := HB5.out.cell 0
    simp only [List.getElem?_cons_zero] at u0
    clear hb3 hy hF3
    go_wp2_with (fail)
    clear eW4 r0 r1 k0 k1 u0
    obtain ⟨q0, q1, q2, q3, q4, q5, q6⟩ := HB4.out.cells7
    obtain ⟨f0, f1, f2, f3, f4, f5, f6⟩ := HB4.out.fz7
    have r0 := HB5.out.cell 0
    have r1 := HB5.out.cell 1
    simp only [List.getElem?_cons_zero, List.getElem?_cons_succ] at r0 r1
    have k0 := HB5.out.fz 0
    have k1 := HB5.out.fz 1
    have s0 := HB4.out.same (i := 0) rfl
    have s1 := HB4.out.same (i := 1) rfl
    have s2 := HB4.out.same (i := 2) rfl
    have s3 := HB4.out.same (i := 3) rfl
    have s4 := HB4.out.same (i := 4) rfl
    have s5 := HB4.out.same (i := 5) rfl
    have s6 := HB4.out.same (i := 6) rfl
    have s7 := HB5.out.same (i := 0) rfl
    have s8 := HB5.out.same (i := 1) rfl
    have HK := Lib.hid (show (W4.drew.cell? ⟨w.heap.size, 0, none⟩ = some (.int .i64 0) ∧ W4.drew.cell? ⟨w.heap.size, 1, none⟩ = some (.int .i64 0) ∧ W4.drew.cell? ⟨w.heap.size, 2, none⟩ = some (.int .i64 0) ∧ W4.drew.cell? ⟨w.heap.size, 3, none⟩ = some (.int .i64 0) ∧ W4.drew.cell? ⟨w.heap.size, 4, none⟩ = some (.string ⟨#[]⟩) ∧ W4.drew.cell? ⟨w.heap.size, 5, none⟩ = some (.slice none 0 0) ∧ W4.drew.cell? ⟨w.heap.size, 6, none⟩ = some (.slice none 0 0) ∧ W4.drew.cell? ⟨w.heap.size + 1, 0, none⟩ = some (.int .i64 c) ∧ W4.drew.cell? ⟨w.heap.size + 1, 1, none⟩ = some (.int .i64 a)) from ⟨q0, q1, q2, q3, q4, q5, q6, r0, r1⟩)
    go_wp2_with (fail)
    go_region_held3 (fun w' => w'.cell? ⟨w.heap.size, 0, none⟩ = some (.int .i64 0) ∧ w'.cell? ⟨w.heap.size, 1, none⟩ = some (.int .i64 0) ∧ w'.cell? ⟨w.heap.size, 2, none⟩ = some (.int .i64 0) ∧ w'.cell? ⟨w.heap.size, 3, none⟩ = some (.int .i64 0) ∧ w'.cell? ⟨w.heap.size, 4, none⟩ = some (.string ⟨#[]⟩) ∧ w'.cell? ⟨w.heap.size, 5, none⟩ = some (.slice none 0 0) ∧ w'.cell? ⟨w.heap.size, 6, none⟩ = some (.slice none 0 0) ∧ w'.cell? ⟨w.heap.size + 1, 0, none⟩ = some (.int .i64 c) ∧ w'.cell? ⟨w.heap.size + 1, 1, none⟩ = some (.int .i64 a))
      (with_reducible exact HK.out)
      (fail)
    all_goals go_wp2_with (fail)
    all_goals rw [HRX.out]
    all_goals exact reads_none rfl rfl HW4.out.drew HB4.out HB5.out (exIs_zero _)
end Go.Proofs.YtmepcmnpmhhiiaaGreatDoor
namespace Go.Proofs.YtmepcmnpmhhiiaaGreatDoor
open Go.RowKit Go.Maps
set_option linter.unusedVariables false
set_option linter.unusedSimpArgs false

/-- An expression of a text, and the fault. -/
def parseX (s : Txt) : Ex × Int × Int := if (readX s).2.1 = 0 then (if formedS (readX s).1 then readX s else (Ex.zero, 2, 0)) else readX s
theorem pair_done {w V : World} {c a : Int} {x0 x1 x2 x3 x4 x5 x6 : Value} (tmps : Array Value) (ht2 : tmps[2]? = some (.pointer (some ⟨w.heap.size, 0, none⟩))) (ht3 : tmps[3]? = some (.pointer (some ⟨w.heap.size + 1, 0, none⟩)))
    (h4 : Blk V w.heap.size [x0, x1, x2, x3, x4, x5, x6] 26) (h5 : Blk V (w.heap.size + 1) [.int .i64 c, .int .i64 a] 35) :
    (results Tryz.f16 tmps).run Tryz.prog V = .ok (.tuple #[.agg #[x0, x1, x2, x3, x4, x5, x6], .agg #[.int .i64 c, .int .i64 a]]) V := by
  obtain ⟨q0, q1, q2, q3, q4, q5, q6⟩ := h4.cells7
  have r0 := h5.cell 0
  have r1 := h5.cell 1
  simp only [List.getElem?_cons_zero, List.getElem?_cons_succ] at r0 r1
  simp [results, Tryz.results16, go_sem, ht2, ht3, q0, q1, q2, q3, q4, q5, q6, r0, r1]
/-- What two stores into the results come to. -/
theorem pair_set {w W : World} {z0 z1 z2 z3 z4 z5 z6 y0 y1 x0 x1 x2 x3 x4 x5 x6 u v : Value} (hb : Below w.heap.size w W) (h4 : Blk W w.heap.size [z0, z1, z2, z3, z4, z5, z6] 26) (h5 : Blk W (w.heap.size + 1) [y0, y1] 35) {V0 V1 : World}
    (e0 : V0 = sev W w.heap.size x0 x1 x2 x3 x4 x5 x6) (e1 : V1 = (V0.setCell ⟨w.heap.size + 1, 0, none⟩ u).setCell ⟨w.heap.size + 1, 1, none⟩ v) :
    Blk V0 (w.heap.size + 1) [y0, y1] 35 ∧ (∀ b, b ≠ w.heap.size → V0.heap[b]? = W.heap[b]?) ∧ V0.heap.size = W.heap.size ∧
    Blk V1 w.heap.size [x0, x1, x2, x3, x4, x5, x6] 26 ∧ Blk V1 (w.heap.size + 1) [u, v] 35 ∧ (∀ b, b ≠ w.heap.size → b ≠ w.heap.size + 1 → V1.heap[b]? = W.heap[b]?) ∧ V1.heap.size = W.heap.size ∧ Below w.heap.size w V1 := by
  have hq : ∀ b, b ≠ w.heap.size → V0.heap[b]? = W.heap[b]? := fun b hb => by rw [e0]; exact sev_block (fun e => hb e.symm)
  have hz : V0.heap.size = W.heap.size := by rw [e0]; exact sev_size
  have g5 : Blk V0 (w.heap.size + 1) [y0, y1] 35 := (hq _ (by omega)).trans h5
  have g4 : Blk V0 w.heap.size [x0, x1, x2, x3, x4, x5, x6] 26 := by rw [e0]; exact Blk.sev h4
  have hr : ∀ (X : World) (o : Nat) (x : Value) (b : Nat), b ≠ w.heap.size + 1 → (X.setCell ⟨w.heap.size + 1, o, none⟩ x).heap[b]? = X.heap[b]? := fun X o x b hb => Below.heap_setCell _ _ _ _ (by simpa using hb)
  have hA := sev_side W w.heap.size x0 x1 x2 x3 x4 x5 x6
  rw [← e0] at hA
  have hB0 : Below w.heap.size w V0 := ⟨hA.os.trans hb.os, hA.tape.trans hb.tape, hA.output.trans hb.output, Nat.le_trans hb.size hA.size, fun i hi => (hq i (by omega)).trans (hb.block i hi)⟩
  refine ⟨g5, hq, hz, ?_, ?_, fun b h1 h2 => ?_, ?_, ?_⟩
  · rw [e1]; exact (g4.other (by omega) _ _).other (by omega) _ _
  · rw [e1]; have := (g5.set 0 u).set 1 v; simpa using this
  · rw [e1, hr _ _ _ _ h2, hr _ _ _ _ h2]; exact hq b h1
  · rw [e1]; simpa [World.setCell] using hz
  · rw [e1]; exact (hB0.setCell (show w.heap.size ≤ w.heap.size + 1 by omega) _).setCell (show w.heap.size ≤ w.heap.size + 1 by omega) _
set_option maxHeartbeats 4000000 in
set_option maxRecDepth 100000 in
theorem parseX_calls (s : Txt) (w : World) (ht : Tab w) : Calls Tryz.prog 16 #[.string s] w (Reads w (parseX s)) := by
  obtain ⟨W2, eW⟩ : ∃ W2, (w.alloc (.cells #[.int .i64 0, .int .i64 0, .int .i64 0, .int .i64 0, .string ⟨#[]⟩, .slice none 0 0, .slice none 0 0] 26)).alloc (.cells #[.int .i64 0, .int .i64 0] 35) = W2 := ⟨_, rfl⟩
  obtain ⟨z2, hb2, m0, m1⟩ := boxes2 eW
  have hB2 : Blk W2 w.heap.size zeroC 26 := by rw [← eW]; exact (Blk.new _ _ _).below ((Below.refl _ _).alloc (Nat.le_refl _) _)
  have hC2 : Blk W2 (w.heap.size + 1) [.int .i64 0, .int .i64 0] 35 := by rw [← eW]; exact Blk.new2 _ _ _ _ _
  have HB2 := Lib.hid hb2
  have HE2 := Lib.hid hB2
  have HF2 := Lib.hid hC2
  have HTB := Lib.hid ht
  have HRC := Lib.hid (readX_calls s W2 (ht.below hb2))
  have HPX : Hid (parseX s = if (readX s).2.1 = 0 then (if formedS (readX s).1 then readX s else (Ex.zero, 2, 0)) else readX s) := rfl
  clear hb2 m0 m1 hB2 hC2 ht
  generalize readX s = r at *
  obtain ⟨x, c, a⟩ := r
  go_enter Tryz.func16, Tryz.ntmps16
  go_wp2_with (fail)
  clear eW
  refine HRC.out.mono ?_
  rintro e w3 ⟨v3, rfl, hx3, hb3⟩
  have HX3 := Lib.hid hx3
  obtain ⟨vl, va, rfl, hvl, hva⟩ := hx3
  obtain ⟨pl, cl, rfl, _⟩ := hvl
  obtain ⟨pa, ca, rfl, _⟩ := hva
  obtain ⟨W4, eW4⟩ : ∃ W4, (w3.alloc (.cells #[.int .i64 x.kind, .int .i64 x.at_, .int .i64 x.num, .int .i64 x.ty, .string x.name, .slice pl x.lab.length cl, .slice pa x.kids.length ca] 26)).alloc (.cells #[.int .i64 c, .int .i64 a] 35) = W4 := ⟨_, rfl⟩
  obtain ⟨z4, hb4, m0, m1⟩ := boxes2 eW4
  have HBX : Hid (Blk W4 w3.heap.size [.int .i64 x.kind, .int .i64 x.at_, .int .i64 x.num, .int .i64 x.ty, .string x.name, .slice pl x.lab.length cl, .slice pa x.kids.length ca] 26) := by rw [← eW4]; exact (Blk.new _ _ _).below ((Below.refl _ _).alloc (Nat.le_refl _) _)
  have HBF : Hid (Blk W4 (w3.heap.size + 1) [.int .i64 c, .int .i64 a] 35) := by rw [← eW4]; exact Blk.new2 _ _ _ _ _
  have hb34 := hb3.trans (hb4.mono hb3.size)
  have HE4 := Lib.hid (HE2.out.below hb34)
  have HF4 := Lib.hid (HF2.out.below hb34)
  have HB4 := Lib.hid (HB2.out.trans (hb34.mono HB2.out.size))
  have HN3 : Hid (w.heap.size + 1 < w3.heap.size) := (HF2.out.below hb3).lt
  have HX4 := Lib.hid (HX3.out.stays (since_below hb4))
  have HW2 : Hid (W2.heap.size = w.heap.size + 2) := z2
  have HFM := Lib.hid (formed_calls x _ W4 (HX4.out.stays (hide_keeps _ _)) (HTB.out.below HB4.out))
  obtain ⟨q0, q1, q2, q3, q4, q5, q6⟩ := HBX.out.cells7
  have r0 := HBF.out.cell 0
  have r1 := HBF.out.cell 1
  simp only [List.getElem?_cons_zero, List.getElem?_cons_succ] at r0 r1
  clear hb3 hb4 hb34 m0 m1 z4 HRC
  by_cases hc : c = 0
  · have hc1 : (c == 0) = true := by simp [hc]
    have HC0 := Lib.hid hc
    clear hc
    cases hf : formedS x with
    | false =>
      rw [hf] at HFM
      have HPY : Hid (parseX s = (Ex.zero, 2, 0)) := by unfold Hid; rw [HPX.out]; show (if c = 0 then _ else _) = _; rw [if_pos HC0.out]; show (if formedS x = true then _ else _) = _; rw [hf]; rfl
      clear hf HPX
      go_wp2_with (fail)
      clear eW4
      refine HFM.out.mono ?_
      rintro e w5 ⟨rfl, hb5⟩
      have HE5 := Lib.hid (HE4.out.below hb5)
      have HF5 := Lib.hid (HF4.out.below hb5)
      have HB5 := Lib.hid (HB4.out.trans (hb5.mono HB4.out.size))
      clear q0 q1 q2 q3 q4 q5 q6 r0 r1 hb5
      obtain ⟨q0, q1, q2, q3, q4, q5, q6⟩ := HE5.out.cells7
      obtain ⟨f0, f1, f2, f3, f4, f5, f6⟩ := HE5.out.fz7
      have r0 := HF5.out.cell 0
      have r1 := HF5.out.cell 1
      simp only [List.getElem?_cons_zero, List.getElem?_cons_succ] at r0 r1
      have k0 := HF5.out.fz 0
      have k1 := HF5.out.fz 1
      have hn1 : ¬ w.heap.size = w.heap.size + 1 := by omega
      obtain ⟨V0, eV0⟩ : ∃ V0, sev w5 w.heap.size (.int .i64 0) (.int .i64 0) (.int .i64 0) (.int .i64 0) (.string ⟨#[]⟩) (.slice none 0 0) (.slice none 0 0) = V0 := ⟨_, rfl⟩
      obtain ⟨V1, eV1⟩ : ∃ V1, (V0.setCell ⟨w.heap.size + 1, 0, none⟩ (.int .i64 2)).setCell ⟨w.heap.size + 1, 1, none⟩ (.int .i64 0) = V1 := ⟨_, rfl⟩
      obtain ⟨_, _, _, g4, g5, _, _, g8⟩ := pair_set HB5.out HE5.out HF5.out eV0.symm eV1.symm
      have HG4 := Lib.hid g4
      have HG5 := Lib.hid g5
      have HG8 := Lib.hid g8
      have EV0 := Lib.hid eV0
      have EV1 := Lib.hid eV1
      clear g4 g5 g8 eV0 eV1
      go_wp2_with (fail)
      rw [HPY.out]
      have h1 := And.intro HG4.out (And.intro HG5.out HG8.out)
      rw [← EV1.out, ← EV0.out] at h1
      unfold sev at h1
      exact bodyPost_ret (pair_done _ rfl rfl h1.1 h1.2.1) rfl ⟨_, rfl, exIs_zero _, h1.2.2⟩
    | true =>
      rw [hf] at HFM
      have HPY : Hid (parseX s = (x, c, a)) := by unfold Hid; rw [HPX.out]; show (if c = 0 then _ else _) = _; rw [if_pos HC0.out]; show (if formedS x = true then _ else _) = _; rw [hf]; rfl
      clear hf HPX
      go_wp2_with (fail)
      clear eW4
      refine HFM.out.mono ?_
      rintro e w5 ⟨rfl, hb5⟩
      have HE5 := Lib.hid (HE4.out.below hb5)
      have HF5 := Lib.hid (HF4.out.below hb5)
      have HB5 := Lib.hid (HB4.out.trans (hb5.mono HB4.out.size))
      have HBX5 := Lib.hid (HBX.out.below hb5)
      have HBF5 := Lib.hid (HBF.out.below hb5)
      have HX5 := Lib.hid (HX4.out.stays (since_below hb5))
      clear q0 q1 q2 q3 q4 q5 q6 r0 r1 hb5
      have HS0 : Hid (∀ V : World, (∀ b, b = w3.heap.size ∨ b = w3.heap.size + 1 → V.heap[b]? = w5.heap[b]?) → (V.cell? ⟨w3.heap.size, 0, none⟩ = some (.int .i64 x.kind) ∧ V.cell? ⟨w3.heap.size, 1, none⟩ = some (.int .i64 x.at_) ∧ V.cell? ⟨w3.heap.size, 2, none⟩ = some (.int .i64 x.num) ∧ V.cell? ⟨w3.heap.size, 3, none⟩ = some (.int .i64 x.ty) ∧ V.cell? ⟨w3.heap.size, 4, none⟩ = some (.string x.name) ∧ V.cell? ⟨w3.heap.size, 5, none⟩ = some (.slice pl x.lab.length cl) ∧ V.cell? ⟨w3.heap.size, 6, none⟩ = some (.slice pa x.kids.length ca) ∧ V.cell? ⟨w3.heap.size + 1, 0, none⟩ = some (.int .i64 c) ∧ V.cell? ⟨w3.heap.size + 1, 1, none⟩ = some (.int .i64 a))) := fun V h => by
        have b4 : Blk V w3.heap.size [.int .i64 x.kind, .int .i64 x.at_, .int .i64 x.num, .int .i64 x.ty, .string x.name, .slice pl x.lab.length cl, .slice pa x.kids.length ca] 26 := (h _ (.inl rfl)).trans HBX5.out
        have b5 : Blk V (w3.heap.size + 1) [.int .i64 c, .int .i64 a] 35 := (h _ (.inr rfl)).trans HBF5.out
        obtain ⟨p0, p1, p2, p3, p4, p5, p6⟩ := b4.cells7
        exact ⟨p0, p1, p2, p3, p4, p5, p6, b5.cell 0, b5.cell 1⟩
      obtain ⟨q0, q1, q2, q3, q4, q5, q6⟩ := HE5.out.cells7
      obtain ⟨f0, f1, f2, f3, f4, f5, f6⟩ := HE5.out.fz7
      have r0 := HF5.out.cell 0
      have r1 := HF5.out.cell 1
      simp only [List.getElem?_cons_zero, List.getElem?_cons_succ] at r0 r1
      have k0 := HF5.out.fz 0
      have k1 := HF5.out.fz 1
      have hn1 : ¬ w.heap.size = w.heap.size + 1 := by omega
      obtain ⟨V0, eV0⟩ : ∃ V0, sev w5 w.heap.size (.int .i64 x.kind) (.int .i64 x.at_) (.int .i64 x.num) (.int .i64 x.ty) (.string x.name) (.slice pl x.lab.length cl) (.slice pa x.kids.length ca) = V0 := ⟨_, rfl⟩
      obtain ⟨V1, eV1⟩ : ∃ V1, (V0.setCell ⟨w.heap.size + 1, 0, none⟩ (.int .i64 c)).setCell ⟨w.heap.size + 1, 1, none⟩ (.int .i64 a) = V1 := ⟨_, rfl⟩
      obtain ⟨_, hq0, hz0, g4, g5, hq1, hz1, g8⟩ := pair_set HB5.out HE5.out HF5.out eV0.symm eV1.symm
      have HK1 := Lib.hid (HS0.out w5.drew (fun b _ => rfl))
      have hK2 := HS0.out V0.drew (fun b hb => hq0 b (by have h1 := HN3.out; omega))
      have hK3 := HS0.out V1.drew (fun b hb => hq1 b (by have h1 := HN3.out; omega) (by have h1 := HN3.out; omega))
      have hXF : ExIs (since w.heap.size V1.drew) x (.agg #[.int .i64 x.kind, .int .i64 x.at_, .int .i64 x.num, .int .i64 x.ty, .string x.name, .slice pl x.lab.length cl, .slice pa x.kids.length ca]) := HX5.out.stays ((keeps_hide (q := fun b => decide (b < W2.heap.size)) (by show w5.heap.size ≤ V1.heap.size; rw [hz1]; exact Nat.le_refl _) fun b hb hp => ⟨hp, hq1 b (by have h1 := HW2.out; simp at hp; omega) (by have h1 := HW2.out; simp at hp; omega)⟩ : Keeps (since W2.heap.size w5) (since W2.heap.size V1.drew)).trans (since_mono _ (by have h1 := HW2.out; omega)))
      have hG : Blk V1.drew w.heap.size [.int .i64 x.kind, .int .i64 x.at_, .int .i64 x.num, .int .i64 x.ty, .string x.name, .slice pl x.lab.length cl, .slice pa x.kids.length ca] 26 ∧ Blk V1.drew (w.heap.size + 1) [.int .i64 c, .int .i64 a] 35 ∧ Below w.heap.size w V1.drew ∧ ExIs (since w.heap.size V1.drew) x (.agg #[.int .i64 x.kind, .int .i64 x.at_, .int .i64 x.num, .int .i64 x.ty, .string x.name, .slice pl x.lab.length cl, .slice pa x.kids.length ca]) := ⟨g4, g5, g8.drew, hXF⟩
      rw [← eV1, ← eV0] at hK3 hG
      rw [← eV0] at hK2
      unfold sev at hK2 hK3 hG
      have HK2 := Lib.hid hK2
      have HK3 := Lib.hid hK3
      have HG := Lib.hid hG
      clear hK2 hK3 hG hXF g4 g5 g8 hq0 hq1 hz0 hz1 eV0 eV1
      go_wp2_with (fail)
      go_region_held3 (fun w' => w'.cell? ⟨w3.heap.size, 0, none⟩ = some (.int .i64 x.kind) ∧ w'.cell? ⟨w3.heap.size, 1, none⟩ = some (.int .i64 x.at_) ∧ w'.cell? ⟨w3.heap.size, 2, none⟩ = some (.int .i64 x.num) ∧ w'.cell? ⟨w3.heap.size, 3, none⟩ = some (.int .i64 x.ty) ∧ w'.cell? ⟨w3.heap.size, 4, none⟩ = some (.string x.name) ∧ w'.cell? ⟨w3.heap.size, 5, none⟩ = some (.slice pl x.lab.length cl) ∧ w'.cell? ⟨w3.heap.size, 6, none⟩ = some (.slice pa x.kids.length ca) ∧ w'.cell? ⟨w3.heap.size + 1, 0, none⟩ = some (.int .i64 c) ∧ w'.cell? ⟨w3.heap.size + 1, 1, none⟩ = some (.int .i64 a))
        (first | with_reducible exact HK1.out | with_reducible exact HK2.out | with_reducible exact HK3.out)
        (fail)
      all_goals go_wp2_with (fail)
      all_goals rw [HPY.out]
      all_goals exact bodyPost_ret (pair_done _ rfl rfl HG.out.1 HG.out.2.1) rfl ⟨_, rfl, HG.out.2.2.2, HG.out.2.2.1⟩
  · have hc1 : (c == 0) = false := by simp [hc]
    have HPY : Hid (parseX s = (x, c, a)) := by unfold Hid; rw [HPX.out]; show (if c = 0 then _ else _) = _; rw [if_neg hc]
    have HE5 := HE4
    have HF5 := HF4
    have HB5 := HB4
    have HBX5 := HBX
    have HBF5 := HBF
    have HX5 := HX4
    clear hc HPX
    go_wp2_with (fail)
    clear eW4 q0 q1 q2 q3 q4 q5 q6 r0 r1
    have HS0 : Hid (∀ V : World, (∀ b, b = w3.heap.size ∨ b = w3.heap.size + 1 → V.heap[b]? = W4.heap[b]?) → (V.cell? ⟨w3.heap.size, 0, none⟩ = some (.int .i64 x.kind) ∧ V.cell? ⟨w3.heap.size, 1, none⟩ = some (.int .i64 x.at_) ∧ V.cell? ⟨w3.heap.size, 2, none⟩ = some (.int .i64 x.num) ∧ V.cell? ⟨w3.heap.size, 3, none⟩ = some (.int .i64 x.ty) ∧ V.cell? ⟨w3.heap.size, 4, none⟩ = some (.string x.name) ∧ V.cell? ⟨w3.heap.size, 5, none⟩ = some (.slice pl x.lab.length cl) ∧ V.cell? ⟨w3.heap.size, 6, none⟩ = some (.slice pa x.kids.length ca) ∧ V.cell? ⟨w3.heap.size + 1, 0, none⟩ = some (.int .i64 c) ∧ V.cell? ⟨w3.heap.size + 1, 1, none⟩ = some (.int .i64 a))) := fun V h => by
      have b4 : Blk V w3.heap.size [.int .i64 x.kind, .int .i64 x.at_, .int .i64 x.num, .int .i64 x.ty, .string x.name, .slice pl x.lab.length cl, .slice pa x.kids.length ca] 26 := (h _ (.inl rfl)).trans HBX5.out
      have b5 : Blk V (w3.heap.size + 1) [.int .i64 c, .int .i64 a] 35 := (h _ (.inr rfl)).trans HBF5.out
      obtain ⟨p0, p1, p2, p3, p4, p5, p6⟩ := b4.cells7
      exact ⟨p0, p1, p2, p3, p4, p5, p6, b5.cell 0, b5.cell 1⟩
    obtain ⟨q0, q1, q2, q3, q4, q5, q6⟩ := HE5.out.cells7
    obtain ⟨f0, f1, f2, f3, f4, f5, f6⟩ := HE5.out.fz7
    have r0 := HF5.out.cell 0
    have r1 := HF5.out.cell 1
    simp only [List.getElem?_cons_zero, List.getElem?_cons_succ] at r0 r1
    have k0 := HF5.out.fz 0
    have k1 := HF5.out.fz 1
    have hn1 : ¬ w.heap.size = w.heap.size + 1 := by omega
    obtain ⟨V0, eV0⟩ : ∃ V0, sev W4 w.heap.size (.int .i64 x.kind) (.int .i64 x.at_) (.int .i64 x.num) (.int .i64 x.ty) (.string x.name) (.slice pl x.lab.length cl) (.slice pa x.kids.length ca) = V0 := ⟨_, rfl⟩
    obtain ⟨V1, eV1⟩ : ∃ V1, (V0.setCell ⟨w.heap.size + 1, 0, none⟩ (.int .i64 c)).setCell ⟨w.heap.size + 1, 1, none⟩ (.int .i64 a) = V1 := ⟨_, rfl⟩
    obtain ⟨_, hq0, hz0, g4, g5, hq1, hz1, g8⟩ := pair_set HB5.out HE5.out HF5.out eV0.symm eV1.symm
    have HK1 := Lib.hid (HS0.out W4.drew (fun b _ => rfl))
    have hK2 := HS0.out V0.drew (fun b hb => hq0 b (by have h1 := HN3.out; omega))
    have hK3 := HS0.out V1.drew (fun b hb => hq1 b (by have h1 := HN3.out; omega) (by have h1 := HN3.out; omega))
    have hXF : ExIs (since w.heap.size V1.drew) x (.agg #[.int .i64 x.kind, .int .i64 x.at_, .int .i64 x.num, .int .i64 x.ty, .string x.name, .slice pl x.lab.length cl, .slice pa x.kids.length ca]) := HX5.out.stays ((keeps_hide (q := fun b => decide (b < W2.heap.size)) (by show W4.heap.size ≤ V1.heap.size; rw [hz1]; exact Nat.le_refl _) fun b hb hp => ⟨hp, hq1 b (by have h1 := HW2.out; simp at hp; omega) (by have h1 := HW2.out; simp at hp; omega)⟩ : Keeps (since W2.heap.size W4) (since W2.heap.size V1.drew)).trans (since_mono _ (by have h1 := HW2.out; omega)))
    have hG : Blk V1.drew w.heap.size [.int .i64 x.kind, .int .i64 x.at_, .int .i64 x.num, .int .i64 x.ty, .string x.name, .slice pl x.lab.length cl, .slice pa x.kids.length ca] 26 ∧ Blk V1.drew (w.heap.size + 1) [.int .i64 c, .int .i64 a] 35 ∧ Below w.heap.size w V1.drew ∧ ExIs (since w.heap.size V1.drew) x (.agg #[.int .i64 x.kind, .int .i64 x.at_, .int .i64 x.num, .int .i64 x.ty, .string x.name, .slice pl x.lab.length cl, .slice pa x.kids.length ca]) := ⟨g4, g5, g8.drew, hXF⟩
    rw [← eV1, ← eV0] at hK3 hG
    rw [← eV0] at hK2
    unfold sev at hK2 hK3 hG
    have HK2 := Lib.hid hK2
    have HK3 := Lib.hid hK3
    have HG := Lib.hid hG
    clear hK2 hK3 hG hXF g4 g5 g8 hq0 hq1 hz0 hz1 eV0 eV1
    go_wp2_with (fail)
    go_region_held3 (fun w' => w'.cell? ⟨w3.heap.size, 0, none⟩ = some (.int .i64 x.kind) ∧ w'.cell? ⟨w3.heap.size, 1, none⟩ = some (.int .i64 x.at_) ∧ w'.cell? ⟨w3.heap.size, 2, none⟩ = some (.int .i64 x.num) ∧ w'.cell? ⟨w3.heap.size, 3, none⟩ = some (.int .i64 x.ty) ∧ w'.cell? ⟨w3.heap.size, 4, none⟩ = some (.string x.name) ∧ w'.cell? ⟨w3.heap.size, 5, none⟩ = some (.slice pl x.lab.length cl) ∧ w'.cell? ⟨w3.heap.size, 6, none⟩ = some (.slice pa x.kids.length ca) ∧ w'.cell? ⟨w3.heap.size + 1, 0, none⟩ = some (.int .i64 c) ∧ w'.cell? ⟨w3.heap.size + 1, 1, none⟩ = some (.int .i64 a))
      (first | with_reducible exact HK1.out | with_reducible exact HK2.out | with_reducible exact HK3.out)
      (fail)
    all_goals go_wp2_with (fail)
    all_goals rw [HPY.out]
    all_goals exact bodyPost_ret (pair_done _ rfl rfl HG.out.1 HG.out.2.1) rfl ⟨_, rfl, HG.out.2.2.2, HG.out.2.2.1⟩
end Go.Proofs.YtmepcmnpmhhiiaaGreatDoor
namespace Go.Proofs.YtmepcmnpmhhiiaaGreatDoor
open Go.RowKit Go.Maps
set_option linter.unusedVariables false
set_option linter.unusedSimpArgs false

def treeT : Txt := ⟨#[49, 43, 50, 42, 45, 40, 97, 43, 98, 41]⟩
def treeO : Txt := ⟨#[49, 32, 43, 32, 50, 32, 42, 32, 45, 40, 97, 32, 43, 32, 98, 41]⟩
def treeK0 : Ex := .mk 1 0 1 1 ⟨#[]⟩ [] []
def treeK1 : Ex := .mk 3 3 0 0 ⟨#[42]⟩ [] [.mk 1 2 2 1 ⟨#[]⟩ [] [], .mk 3 4 0 0 ⟨#[45]⟩ [] [.mk 3 7 0 0 ⟨#[43]⟩ [] [.mk 2 6 0 0 ⟨#[97]⟩ [] [], .mk 2 8 0 0 ⟨#[98]⟩ [] []]]]
def treeX : Ex := .mk 3 1 0 0 ⟨#[43]⟩ [] [treeK0, treeK1]
def treeToks : List Tok := [(2, 0, ⟨#[49]⟩), (4, 1, ⟨#[43]⟩), (2, 2, ⟨#[50]⟩), (4, 3, ⟨#[42]⟩), (4, 4, ⟨#[45]⟩), (4, 5, ⟨#[40]⟩), (1, 6, ⟨#[97]⟩), (4, 7, ⟨#[43]⟩), (1, 8, ⟨#[98]⟩), (4, 9, ⟨#[41]⟩)]
theorem tree_scan : scanOf treeT = (treeToks, 0, 0) := by decide +kernel
theorem tree_formed : formedS treeX = true := by decide +kernel
theorem tree_text : textP treeX 0 = treeO := by decide +kernel
theorem tree_expr : exprL treeToks (primP treeToks 10 12) 5 0 = .ok treeX 10 := by kernel_rfl
theorem tree_read : readX treeT = (treeX, 0, 0) := by
  have e : (treeT.size : Int) = 10 := by decide
  unfold readX
  rw [tree_scan, e]
  show (if (0 : Int) = 0 then (match exprL treeToks (primP treeToks 10 12) 5 0 with
    | .ok x k => if k < treeToks.length then (Ex.zero, 1, tkAt treeToks 10 k) else (x, 0, 0)
    | .bad c a => (Ex.zero, c, a)) else _) = _
  rw [if_pos rfl, tree_expr]
  rfl
theorem tree_parse : parseX treeT = (treeX, 0, 0) := by
  unfold parseX
  rw [tree_read]
  show (if (0 : Int) = 0 then (if formedS treeX = true then _ else _) else _) = _
  rw [if_pos rfl, if_pos tree_formed]
theorem tree_out : textS treeX = treeO ∧ textE treeX = 0 := by
  unfold textS textE
  rw [if_pos tree_formed, if_pos tree_formed]
  exact ⟨tree_text, rfl⟩
set_option maxHeartbeats 2000000 in
set_option maxRecDepth 100000 in
theorem treed_calls (w : World) (ht : Tab w) (hp : Pow w) : Calls Tryz.prog 10 #[] w fun e w' => e = .returned (.bool true) ∧ Below w.heap.size w w' := by
  have hx := parseX_calls treeT w ht
  rw [tree_parse] at hx
  unfold treeT at hx
  have HX := Lib.hid hx
  have HT := Lib.hid ht
  have HP := Lib.hid hp
  clear hx ht hp
  go_enter Tryz.func10, Tryz.ntmps10
  go_wp2_with (fail)
  refine HX.out.mono ?_
  rintro e w1 ⟨v, rfl, hx1, hb1⟩
  replace hx1 := hx1.stays (hide_keeps _ _)
  have HX1 := Lib.hid hx1
  obtain ⟨vl, va, rfl, hvl, hva⟩ := hx1
  obtain ⟨pl, cl, rfl, _⟩ := hvl
  have hva0 := hva
  obtain ⟨b, o, c, p, rfl, hmax, hpp, hkids⟩ := hva.at
  have hk1 := hkids 1 (by show 1 < 2; decide)
  obtain ⟨pl1, cl1, pa1, ca1, g1, g2, g3, g4, g5, g6, g7, g8, g9⟩ := hk1
  have g7' : w1.cell? ⟨b, o + 11, none⟩ = some (.string ⟨#[42]⟩) := by simpa [Nat.add_assoc, treeX, treeK1, Ex.kids, Ex.name] using g7
  obtain rfl := hpp (by show 0 < 2; decide)
  have e0 : treeX.kind = 3 ∧ treeX.at_ = 1 ∧ treeX.num = 0 ∧ treeX.ty = 0 ∧ treeX.name = ⟨#[43]⟩ ∧ treeX.lab.length = 0 ∧ treeX.kids.length = 2 := ⟨rfl, rfl, rfl, rfl, rfl, rfl, rfl⟩
  obtain ⟨e1, e2, e3, e4, e5, e6, e7⟩ := e0
  simp only [e1, e2, e3, e4, e5, e6, e7] at HX1 ⊢
  obtain ⟨W2, eW⟩ : ∃ W2, (w1.alloc (.cells #[.int .i64 3, .int .i64 1, .int .i64 0, .int .i64 0, .string ⟨#[43]⟩, .slice pl 0 cl, .slice (some ⟨b, o, none⟩) 2 c] 26)).alloc (.cells #[.int .i64 0, .int .i64 0] 35) = W2 := ⟨_, rfl⟩
  obtain ⟨z2, hb2, m0, m1⟩ := boxes2 eW
  have hB : Blk W2 w1.heap.size [.int .i64 3, .int .i64 1, .int .i64 0, .int .i64 0, .string ⟨#[43]⟩, .slice pl 0 cl, .slice (some ⟨b, o, none⟩) 2 c] 26 := by rw [← eW]; exact (Blk.new _ _ _).below ((Below.refl _ _).alloc (Nat.le_refl _) _)
  have hF : Blk W2 (w1.heap.size + 1) [.int .i64 0, .int .i64 0] 35 := by rw [← eW]; exact Blk.new2 _ _ _ _ _
  have HB := Lib.hid hB
  have HF := Lib.hid hF
  have HB2 := Lib.hid (hb1.trans (hb2.mono hb1.size))
  have ht := textTop_calls treeX _ W2 (HX1.out.stays (keeps_of_below hb2)) (HT.out.below HB2.out) (HP.out.below HB2.out)
  rw [tree_out.1, tree_out.2] at ht
  have HTX := Lib.hid ht
  have HG : Hid (W2.cell? ⟨b, o + 11, none⟩ = some (.string ⟨#[42]⟩)) := (keeps_of_below hb2).2 _ _ _ g7'
  obtain ⟨q0, q1, q2, q3, q4, q5, q6⟩ := hB.cells7
  have r0 := hF.cell 0
  have r1 := hF.cell 1
  simp only [List.getElem?_cons_zero, List.getElem?_cons_succ] at r0 r1
  have k0 := hF.fz 0
  have k1 := hF.fz 1
  have s7 := hF.same (i := 0) rfl
  have s8 := hF.same (i := 1) rfl
  clear ht hB hF hb1 hb2 hkids hmax g1 g2 g3 g4 g5 g6 g7 g8 g9 g7' hva hva0 m0 m1 z2 e1 e2 e3 e4 e5 e6 e7
  go_wp2_with (fail)
  clear eW q0 q1 q2 q3 q4 q5 q6 r0 r1 k0 k1 s7 s8
  refine HTX.out.mono ?_
  rintro e w3 ⟨rfl, hb3⟩
  obtain ⟨q0, q1, q2, q3, q4, q5, q6⟩ := (HB.out.below hb3).cells7
  have r0 := (HF.out.below hb3).cell 0
  simp only [List.getElem?_cons_zero] at r0
  have g := (keeps_of_below hb3).2 _ _ _ HG.out
  have HB3 := Lib.hid (HB2.out.trans (hb3.mono HB2.out.size))
  unfold treeO
  clear hb3
  go_wp2_with (fail)
  go_ret
  exact ⟨rfl, HB3.out⟩
end Go.Proofs.YtmepcmnpmhhiiaaGreatDoor
namespace Go.Proofs.YtmepcmnpmhhiiaaGreatDoor
open Go.RowKit Go.Maps
set_option linter.unusedVariables false
set_option linter.unusedSimpArgs false

theorem refSame_deep : ∀ (n : Nat) (x y : Ex) (va vb : Value) (w : World), deepE x ≤ n → ExIs w x va → ExIs w y vb → Calls Tryz.prog 23 #[va, vb] w fun e w' => e = .returned (.bool (sameE x y)) ∧ Below w.heap.size w w' := by
  intro n
  induction n with
  | zero => intro x y va vb w h; rw [deepE_eq] at h; omega
  | succ n ih =>
    intro x y va vb w h hx hy
    refine refSame_step x y va vb w hx hy fun k h1 h2 W v u hv hu => ih _ _ v u W ?_ hv hu
    have := deepL_at h1
    rw [deepE_eq] at h
    omega
theorem refSame_calls (x y : Ex) (va vb : Value) (w : World) (hx : ExIs w x va) (hy : ExIs w y vb) : Calls Tryz.prog 23 #[va, vb] w fun e w' => e = .returned (.bool (sameE x y)) ∧ Below w.heap.size w w' := refSame_deep _ x y va vb w (Nat.le_refl _) hx hy
set_option maxHeartbeats 8000000 in
set_option maxRecDepth 100000 in
theorem treeExpr_calls (x y : Ex) (s : Txt) (va vb : Value) (w : World) (hx : ExIs w x va) (hy : ExIs w y vb) (ox : OkEx x) (oy : OkEx y) (nx : nodesE x ≤ 1048576) (ny : nodesE y ≤ 1048576) (hs : okTxt s) (ht : Tab w) (hp : Pow w) (hm : MaxL w) :
    Calls Tryz.prog 4 #[va, vb, .string s] w fun e w' => e = .returned (.bool true) ∧ Below w.heap.size w w' := by
  have hx0 := hx
  have hy0 := hy
  obtain ⟨vl, wa, rfl, hl, ha⟩ := hx
  obtain ⟨pl, cl, rfl, _⟩ := hl
  obtain ⟨p, c, rfl, _⟩ := ha
  obtain ⟨vl2, wa2, rfl, hl2, ha2⟩ := hy
  obtain ⟨pl2, cl2, rfl, _⟩ := hl2
  obtain ⟨p2, c2, rfl, _⟩ := ha2
  obtain ⟨W2, eW⟩ : ∃ W2, (w.alloc (.cells #[.int .i64 x.kind, .int .i64 x.at_, .int .i64 x.num, .int .i64 x.ty, .string x.name, .slice pl x.lab.length cl, .slice p x.kids.length c] 26)).alloc (.cells #[.int .i64 y.kind, .int .i64 y.at_, .int .i64 y.num, .int .i64 y.ty, .string y.name, .slice pl2 y.lab.length cl2, .slice p2 y.kids.length c2] 26) = W2 := ⟨_, rfl⟩
  obtain ⟨z2, hb2, m0, m1⟩ := boxes2 eW
  have hB : Blk W2 w.heap.size (exC x (.slice pl x.lab.length cl) (.slice p x.kids.length c)) 26 := by rw [← eW]; exact (Blk.new _ _ _).below ((Below.refl _ _).alloc (Nat.le_refl _) _)
  have hC : Blk W2 (w.heap.size + 1) (exC y (.slice pl2 y.lab.length cl2) (.slice p2 y.kids.length c2)) 26 := by rw [← eW]; exact Blk.new2 _ _ _ _ _
  obtain ⟨ext, hx1, hx2⟩ := exists_ext W2
  have hx3 : ∀ r w', Below (ext r).heap.size (ext r) w' → ∃ r', w' = ext r' := fun r w' h => ⟨w', hx2 _ ((hx1 r).trans (h.mono (hx1 r).size))⟩
  have hbx : ∀ r, Below w.heap.size w (ext r) := fun r => hb2.trans ((hx1 r).mono hb2.size)
  have kx : ∀ r, ExIs (ext r) x (.agg #[.int .i64 x.kind, .int .i64 x.at_, .int .i64 x.num, .int .i64 x.ty, .string x.name, .slice pl x.lab.length cl, .slice p x.kids.length c]) := fun r => hx0.stays (keeps_of_below (hbx r))
  have ky : ∀ r, ExIs (ext r) y (.agg #[.int .i64 y.kind, .int .i64 y.at_, .int .i64 y.num, .int .i64 y.ty, .string y.name, .slice pl2 y.lab.length cl2, .slice p2 y.kids.length c2]) := fun r => hy0.stays (keeps_of_below (hbx r))
  have kt : ∀ r, Tab (ext r) := fun r => ht.below (hbx r)
  have kp : ∀ r, Pow (ext r) := fun r => hp.below (hbx r)
  have km : ∀ r, MaxL (ext r) := fun r => hm.below (hbx r)
  have HSX : Hid (∀ r, Calls Tryz.prog 21 #[(.agg #[.int .i64 x.kind, .int .i64 x.at_, .int .i64 x.num, .int .i64 x.ty, .string x.name, .slice pl x.lab.length cl, .slice p x.kids.length c])] (ext r) fun e w'' => e = .returned (.int .i64 (nodesE x : Nat)) ∧ ∃ r', w'' = ext r') := fun r => (refSize_calls x _ _ (kx r) nx).mono fun e w' ⟨h1, h2⟩ => ⟨h1, hx3 r w' h2⟩
  have HSY : Hid (∀ r, Calls Tryz.prog 21 #[(.agg #[.int .i64 y.kind, .int .i64 y.at_, .int .i64 y.num, .int .i64 y.ty, .string y.name, .slice pl2 y.lab.length cl2, .slice p2 y.kids.length c2])] (ext r) fun e w'' => e = .returned (.int .i64 (nodesE y : Nat)) ∧ ∃ r', w'' = ext r') := fun r => (refSize_calls y _ _ (ky r) ny).mono fun e w' ⟨h1, h2⟩ => ⟨h1, hx3 r w' h2⟩
  have HTX : Hid (∀ r, Calls Tryz.prog 9 #[(.agg #[.int .i64 x.kind, .int .i64 x.at_, .int .i64 x.num, .int .i64 x.ty, .string x.name, .slice pl x.lab.length cl, .slice p x.kids.length c])] (ext r) fun e w'' => e = .returned (.tuple #[.string (textS x), .int .i64 (textE x)]) ∧ ∃ r', w'' = ext r') := fun r => (textTop_calls x _ _ (kx r) (kt r) (kp r)).mono fun e w' ⟨h1, h2⟩ => ⟨h1, hx3 r w' h2⟩
  have HNX : Hid (∀ r, Calls Tryz.prog 22 #[(.agg #[.int .i64 x.kind, .int .i64 x.at_, .int .i64 x.num, .int .i64 x.ty, .string x.name, .slice pl x.lab.length cl, .slice p x.kids.length c])] (ext r) fun e w'' => e = .returned (.tuple #[.int .i64 (sizeN x), .int .i64 (sizeE x)]) ∧ ∃ r', w'' = ext r') := fun r => (size_calls x _ _ (kx r)).mono fun e w' ⟨h1, h2⟩ => ⟨h1, hx3 r w' h2⟩
  have HTR : Hid (∀ r, Calls Tryz.prog 10 #[] (ext r) fun e w'' => e = .returned (.bool true) ∧ ∃ r', w'' = ext r') := fun r => (treed_calls _ (kt r) (kp r)).mono fun e w' ⟨h1, h2⟩ => ⟨h1, hx3 r w' h2⟩
  have HSE : Hid (∀ r, Calls Tryz.prog 17 #[(.agg #[.int .i64 x.kind, .int .i64 x.at_, .int .i64 x.num, .int .i64 x.ty, .string x.name, .slice pl x.lab.length cl, .slice p x.kids.length c]), (.agg #[.int .i64 y.kind, .int .i64 y.at_, .int .i64 y.num, .int .i64 y.ty, .string y.name, .slice pl2 y.lab.length cl2, .slice p2 y.kids.length c2])] (ext r) fun e w'' => e = .returned (.bool (sameE x y)) ∧ ∃ r', w'' = ext r') := fun r => (same_calls x y _ _ _ (kx r) (ky r)).mono fun e w' ⟨h1, h2⟩ => ⟨h1, hx3 r w' h2⟩
  have HRS : Hid (∀ r, Calls Tryz.prog 23 #[(.agg #[.int .i64 x.kind, .int .i64 x.at_, .int .i64 x.num, .int .i64 x.ty, .string x.name, .slice pl x.lab.length cl, .slice p x.kids.length c]), (.agg #[.int .i64 y.kind, .int .i64 y.at_, .int .i64 y.num, .int .i64 y.ty, .string y.name, .slice pl2 y.lab.length cl2, .slice p2 y.kids.length c2])] (ext r) fun e w'' => e = .returned (.bool (sameE x y)) ∧ ∃ r', w'' = ext r') := fun r => (refSame_calls x y _ _ _ (kx r) (ky r)).mono fun e w' ⟨h1, h2⟩ => ⟨h1, hx3 r w' h2⟩
  have HFO : Hid (∀ r, Calls Tryz.prog 13 #[(.agg #[.int .i64 x.kind, .int .i64 x.at_, .int .i64 x.num, .int .i64 x.ty, .string x.name, .slice pl x.lab.length cl, .slice p x.kids.length c])] (ext r) fun e w'' => e = .returned (.bool (formedS x)) ∧ ∃ r', w'' = ext r') := fun r => (formed_calls x _ _ (kx r) (kt r)).mono fun e w' ⟨h1, h2⟩ => ⟨h1, hx3 r w' h2⟩
  have HRF : Hid (∀ r, Calls Tryz.prog 24 #[(.agg #[.int .i64 x.kind, .int .i64 x.at_, .int .i64 x.num, .int .i64 x.ty, .string x.name, .slice pl x.lab.length cl, .slice p x.kids.length c])] (ext r) fun e w'' => e = .returned (.bool (formedS x)) ∧ ∃ r', w'' = ext r') := fun r => (isFormed_calls x _ _ ox nx (km r) (kx r)).mono fun e w' ⟨h1, h2⟩ => ⟨h1, hx3 r w' h2⟩
  have HLV : Hid (∀ r, Calls Tryz.prog 25 #[.string s] (ext r) fun e w'' => e = .returned (.int .i64 (levelT s)) ∧ ∃ r', w'' = ext r') := fun r => (level_calls s _ (kt r)).mono fun e w' ⟨h1, h2⟩ => ⟨h1, hx3 r w' h2⟩
  have HRL : Hid (∀ r, Calls Tryz.prog 26 #[.string s] (ext r) fun e w'' => e = .returned (.int .i64 (levelT s)) ∧ ∃ r', w'' = ext r') := fun r => (levelOf_calls s _ hs).mono fun e w' ⟨h1, h2⟩ => ⟨h1, hx3 r w' h2⟩
  have HDP : Hid (∀ r, Calls Tryz.prog 27 #[(.agg #[.int .i64 x.kind, .int .i64 x.at_, .int .i64 x.num, .int .i64 x.ty, .string x.name, .slice pl x.lab.length cl, .slice p x.kids.length c])] (ext r) fun e w'' => e = .returned (.int .i64 (deepE x : Nat)) ∧ ∃ r', w'' = ext r') := fun r => (refDeep_calls x _ _ (kx r) nx).mono fun e w' ⟨h1, h2⟩ => ⟨h1, hx3 r w' h2⟩
  have HET : Hid (formedS x = true → ∀ r, Calls Tryz.prog 28 #[(.agg #[.int .i64 x.kind, .int .i64 x.at_, .int .i64 x.num, .int .i64 x.ty, .string x.name, .slice pl x.lab.length cl, .slice p x.kids.length c])] (ext r) fun e w'' => e = .returned (.string (textP x 0)) ∧ ∃ r', w'' = ext r') := fun hf r => (rtext_calls 12 (Nat.le_refl _) x hf _ (kp r) (ext r) _ (Below.refl _ _) (kx r)).mono fun e w' ⟨h1, h2⟩ => ⟨h1, hx3 r w' h2⟩
  have HSD : Hid (12 < deepE x → sizeE x = 2 ∧ sizeN x = 0) := size_deep nx
  have HSF : Hid (deepE x ≤ 12 → sizeE x = 0 ∧ sizeN x = nodesE x) := size_flat nx
  have HTF : Hid (formedS x = true → textS x = textP x 0 ∧ textE x = 0) := fun h => by unfold textS textE; rw [h]; exact ⟨rfl, rfl⟩
  have HTN : Hid (formedS x = false → textS x = ⟨#[]⟩ ∧ textE x = 4) := fun h => by unfold textS textE; rw [h]; exact ⟨rfl, rfl⟩
  have HBX := Lib.hid hbx
  have HDR : Hid (∀ r, ∃ r', (ext r).drew = ext r') := fun r => hx3 r _ (below_drew1 _)
  obtain ⟨r0, hr0⟩ : ∃ r0, W2 = ext r0 := ⟨W2, hx2 _ (Below.refl _ _)⟩
  rw [hr0] at eW
  have q0 := fun r => (hB.below (hx1 r)).cells7.1
  have q1 := fun r => (hB.below (hx1 r)).cells7.2.1
  have q2 := fun r => (hB.below (hx1 r)).cells7.2.2.1
  have q3 := fun r => (hB.below (hx1 r)).cells7.2.2.2.1
  have q4 := fun r => (hB.below (hx1 r)).cells7.2.2.2.2.1
  have q5 := fun r => (hB.below (hx1 r)).cells7.2.2.2.2.2.1
  have q6 := fun r => (hB.below (hx1 r)).cells7.2.2.2.2.2.2
  have v0 := fun r => (hC.below (hx1 r)).cells7.1
  have v1 := fun r => (hC.below (hx1 r)).cells7.2.1
  have v2 := fun r => (hC.below (hx1 r)).cells7.2.2.1
  have v3 := fun r => (hC.below (hx1 r)).cells7.2.2.2.1
  have v4 := fun r => (hC.below (hx1 r)).cells7.2.2.2.2.1
  have v5 := fun r => (hC.below (hx1 r)).cells7.2.2.2.2.2.1
  have v6 := fun r => (hC.below (hx1 r)).cells7.2.2.2.2.2.2
  clear hB hC hx1 hx2 hx3 hbx kx ky kt kp km hx0 hy0 ox oy nx ny hs ht hp hm z2 hb2 m0 m1 hr0
  generalize nodesE x = NX at *
  generalize nodesE y = NY at *
  generalize textS x = XS at *
  generalize textE x = XE at *
  generalize sizeN x = SN at *
  generalize sizeE x = SE at *
  generalize sameE x y = SM at *
  generalize formedS x = FB at *
  generalize levelT s = LV at *
  generalize deepE x = DX at *
  generalize textP x 0 = XP at *
  by_cases h5 : 5000 < NX
  · have h5i : (5000 : Int) < (NX : Int) := by omega
    clear h5
    go_enter Tryz.func4, Tryz.ntmps4
    go_wp2_with (fail)
    refine (HSX.out _).mono ?_
    rintro e w1 ⟨rfl, r1, rfl⟩
    go_wp2_with (fail)
    go_ret
    exact ⟨rfl, HBX.out _⟩
  have h5i : ¬ (5000 : Int) < (NX : Int) := by omega
  by_cases h6 : 5000 < NY
  · have h6i : (5000 : Int) < (NY : Int) := by omega
    clear h6 h5
    go_enter Tryz.func4, Tryz.ntmps4
    go_wp2_with (fail)
    refine (HSX.out _).mono ?_
    rintro e w1 ⟨rfl, r1, rfl⟩
    go_wp2_with (fail)
    refine (HSY.out _).mono ?_
    rintro e w2 ⟨rfl, r2, rfl⟩
    go_wp2_with (fail)
    go_ret
    exact ⟨rfl, HBX.out _⟩
  have h6i : ¬ (5000 : Int) < (NY : Int) := by omega
  clear h5 h6
  go_enter Tryz.func4, Tryz.ntmps4
  go_wp2_with (fail)
  refine (HSX.out _).mono ?_
  rintro e w1 ⟨rfl, r1, rfl⟩
  go_wp2_with (fail)
  refine (HSY.out _).mono ?_
  rintro e w2 ⟨rfl, r2, rfl⟩
  go_wp2_with (fail)
  refine (HTX.out _).mono ?_
  rintro e w3 ⟨rfl, r3, rfl⟩
  go_wp2_with (fail)
  refine (HNX.out _).mono ?_
  rintro e w4 ⟨rfl, r4, rfl⟩
  clear eW h5i h6i
  go_upto_region 5 with fail
  go_cut [53] from 11 (fun s53 wc => s53 = .bool false ∧ ∃ r, wc = ext r)
  case first =>
    refine wp_region_cls (fun w' => ∃ r, w' = ext r) (by kernel_rfl) (by kernel_rfl) (HDR.out _) ?_
    repeat go_big_quiet_step (first
      | (go_at_call 10; with_reducible exact HTR.out _)
      | (go_at_call 17; with_reducible exact HSE.out _)
      | (go_at_call 23; with_reducible exact HRS.out _)
      | (go_at_call 13; with_reducible exact HFO.out _)
      | (go_at_call 24; with_reducible exact HRF.out _)
      | (go_at_call 25; with_reducible exact HLV.out _)
      | (go_at_call 26; with_reducible exact HRL.out _))
    refine wpQuiet_nil ?_
    rintro w' ⟨r', rfl⟩
    go_wp2_with (fail)
    go_meet
    exact ⟨by simp, _, rfl⟩
  case rest =>
  obtain ⟨rfl, r5, rfl⟩ := hcut
  go_wp2_with (fail)
  refine (HDP.out _).mono ?_
  rintro e w5 ⟨rfl, r6, rfl⟩
  have HEND : Hid (True) := trivial
  go_upto_if 56 with fail
  go_cut [] from 11 (fun wc => ∃ r, wc = ext r)
  case first =>
    by_cases hd : 12 < DX
    · obtain ⟨rfl, rfl⟩ := HSD.out hd
      have hdi : (12 : Int) < (DX : Int) := by omega
      clear hd
      go_wp2_with (fail)
      go_meet
      exact ⟨_, rfl⟩
    · obtain ⟨rfl, rfl⟩ := HSF.out (by omega)
      have hdi : ¬ (12 : Int) < (DX : Int) := by omega
      clear hd
      go_wp2_with (fail)
      refine (HSX.out _).mono ?_
      rintro e w6 ⟨rfl, r7, rfl⟩
      go_wp2_with (fail)
      go_meet
      exact ⟨_, rfl⟩
  case rest =>
  obtain ⟨r8, rfl⟩ := hcut
  cases FB with
  | false =>
    obtain ⟨rfl, rfl⟩ := HTN.out rfl
    go_wp2_with (fail)
    refine (HRF.out _).mono ?_
    rintro e w7 ⟨rfl, r9, rfl⟩
    go_wp2_with (fail)
    go_ret
    exact ⟨rfl, HBX.out _⟩
  | true =>
    obtain ⟨rfl, rfl⟩ := HTF.out rfl
    have HEX := Lib.hid (HET.out rfl)
    go_wp2_with (fail)
    refine (HRF.out _).mono ?_
    rintro e w7 ⟨rfl, r9, rfl⟩
    go_wp2_with (fail)
    refine (HEX.out _).mono ?_
    rintro e w8 ⟨rfl, r10, rfl⟩
    go_wp2_with (fail)
    go_ret
    exact ⟨by simp, HBX.out _⟩
end Go.Proofs.YtmepcmnpmhhiiaaGreatDoor
