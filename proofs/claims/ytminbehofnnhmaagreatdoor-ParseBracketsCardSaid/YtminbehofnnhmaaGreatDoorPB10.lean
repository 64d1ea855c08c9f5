/- Texts of the proof that ParseBrackets holds, part 10; no conditions. -/
import Derived.Test.YtminbehofnnhmaaGreatDoorPB09
import Derived.Test.YtminbehofnnhmaaGreatDoorPB04
import Derived.Lib.Atoi
import Derived.Test.YtminbehofnnhmaaGreatDoorPB06
import Derived.Test.YtminbehofnnhmaaGreatDoorPB03
import Derived.Shelf.SlicesE.Clone
import Derived.Recover
import Derived.Defers
import Derived.BigQuiet
import Derived.Test.YtminbehofnnhmaaGreatDoorPB02
import Derived.Lib.Bytealg
namespace Go.Proofs.YtminbehofnnhmaaGreatDoor
set_option linter.unusedVariables false
set_option linter.unusedSimpArgs false
set_option maxHeartbeats 8000000
set_option maxRecDepth 100000
section
open Go.RowKit Go.Maps
def AtoiC (T : List Tok) : Prop := ∀ k, (tkNext T k).1 = 2 → ∀ W, Calls Tryz.prog 247 #[.string (tkNext T k).2.2] W fun e w' => e = .returned (.tuple #[.int .i64 (numT (tkNext T k).2.2), .nilIface]) ∧ Below W.heap.size W w'
section
variable {B : Nat} {T : List Tok} {E : Int} {tv : Value} {dp : Nat}
theorem primary_calls (hlev : LevelC) (hato : AtoiC T) : ∀ (d ns : Nat), ns + d = 12 → ReadsEx B T E tv dp ns 167 #[.pointer (some ⟨B, 0, none⟩)] (primP T E d) := by
 intro d
 induction d with
 | zero =>
   intro ns hn W k h
   exact prim_deep h (by omega)
 | succ d ih =>
   intro ns hn W k h
   have hns : ns < 12 := by omega
   have hp := ih (ns + 1) (by omega)
   have hx := expr_one hlev (primP_mono d) hp
   unfold primP
   by_cases h2 : (tkNext T k).1 = 2
   · rw [if_pos h2]
     exact prim_num h hns h2 (hato k h2)
   rw [if_neg h2]
   cases htt : tkIs T k tTrue with
   | true =>
     rw [if_pos rfl]
     exact prim_true h hns h2 htt
   | false =>
   rw [if_neg (by simp)]
   cases htf : tkIs T k tFalse with
   | true =>
     rw [if_pos rfl]
     exact prim_false h hns h2 htt htf
   | false =>
   rw [if_neg (by simp)]
   by_cases h1 : (tkNext T k).1 = 1
   · rw [if_pos h1]
     cases hl : tkIs T (k + 1) tLeft with
     | true =>
       rw [if_pos rfl]
       cases hq : argsP T E (primP T E d) (k + 1) with
       | bad c a => exact prim_call_bad h hns h2 htt htf h1 hx hl hq
       | ok l k2 => exact prim_call h hns h2 htt htf h1 hx hl hq
     | false =>
       rw [if_neg (by simp)]
       exact prim_var h hns h2 htt htf h1 hl
   rw [if_neg h1]
   cases htm : tkIs T k tMinus with
   | true =>
     rw [if_pos (by simp)]
     cases hq : primP T E d (k + 1) with
     | bad c a => exact prim_neg_bad h hns h2 htt htf h1 htm hp hq
     | ok x k2 => exact prim_neg h hns h2 htt htf h1 htm hp hq
   | false =>
   cases htn : tkIs T k tNot with
   | true =>
     rw [if_pos (by simp)]
     cases hq : primP T E d (k + 1) with
     | bad c a => exact prim_not_bad h hns h2 htt htf h1 htm htn hp hq
     | ok x k2 => exact prim_not h hns h2 htt htf h1 htm htn hp hq
   | false =>
   rw [if_neg (by simp)]
   cases htl : tkIs T k tLeft with
   | true =>
     rw [if_pos rfl]
     cases hq : exprL T (primP T E d) 5 (k + 1) with
     | bad c a => exact prim_par_xbad h hns h2 htt htf h1 htm htn htl hx hq
     | ok x k1 =>
       show Calls _ _ _ _ (Does _ _ _ _ _ _ _ _ ((mustP T E tRight k1).bind fun _ k3 => .ok x k3))
       cases hq2 : mustP T E tRight k1 with
       | bad c a => exact prim_par_mbad h hns h2 htt htf h1 htm htn htl hx hq hq2
       | ok u k2 => exact prim_par_ok h hns h2 htt htf h1 htm htn htl hx hq hq2
   | false =>
   rw [if_neg (by simp)]
   cases htr : tkIs T k tRelease with
   | true =>
     rw [if_pos rfl]
     cases q0 : mustP T E tLeft (k + 1) with
     | bad c a => exact prim_rel0 h hns h2 htt htf h1 htm htn htl htr q0
     | ok u1 k1 =>
     show Calls _ _ _ _ (Does _ _ _ _ _ _ _ _ ((exprL T (primP T E d) 5 k1).bind _))
     cases q1 : exprL T (primP T E d) 5 k1 with
     | bad c a => exact prim_rel1 h hns h2 htt htf h1 htm htn htl htr hx q0 q1
     | ok x k2 =>
     show Calls _ _ _ _ (Does _ _ _ _ _ _ _ _ ((mustP T E tTo k2).bind _))
     cases q2 : mustP T E tTo k2 with
     | bad c a => exact prim_rel2 h hns h2 htt htf h1 htm htn htl htr hx q0 q1 q2
     | ok u3 k3 =>
     show Calls _ _ _ _ (Does _ _ _ _ _ _ _ _ ((labelP T E k3).bind _))
     cases q3 : labelP T E k3 with
     | bad c a => exact prim_rel3 h hns h2 htt htf h1 htm htn htl htr hx q0 q1 q2 q3
     | ok lb k4 =>
     show Calls _ _ _ _ (Does _ _ _ _ _ _ _ _ ((mustP T E tRight k4).bind _))
     cases q4 : mustP T E tRight k4 with
     | bad c a => exact prim_rel4 h hns h2 htt htf h1 htm htn htl htr hx q0 q1 q2 q3 q4
     | ok u5 k5 => exact prim_rel5 h hns h2 htt htf h1 htm htn htl htr hx q0 q1 q2 q3 q4
   | false =>
   rw [if_neg (by simp)]
   exact prim_fail h hns h2 htt htf h1 htm htn htl htr
theorem exprTop_calls (hlev : LevelC) (hato : AtoiC T) : ReadsEx B T E tv dp 0 69 #[.pointer (some ⟨B, 0, none⟩), .int .i64 1] (exprL T (primP T E 12) 5) :=
 expr_one hlev (primP_mono 12) (primary_calls hlev hato 12 0 rfl)
end
end
section
open Go.RowKit
theorem decFrom_digits : ∀ (l : List UInt8) (acc : Nat), (∀ b ∈ l, digitB b.toNat = true) → Lib.decFrom acc l = some (l.foldl (fun n b => n * 10 + (b.toNat - 48)) acc) := by
 intro l
 induction l with
 | nil => intro acc _; rfl
 | cons b l ih =>
   intro acc h
   have hb := h b (by simp)
   unfold digitB at hb
   simp at hb
   have e : Lib.digitVal b = some (b.toNat - 48) := by unfold Lib.digitVal; rw [if_pos (by omega)]
   simp only [Lib.decFrom, e, List.foldl_cons]
   exact ih _ fun c hc => h c (by simp [hc])
theorem num_atoi {r u : List UInt8} {c : UInt8} {t : Txt} (e : r = c :: u) (h : stepB r = .tok 2 t) : t.size ≤ 9 ∧ Lib.atoi t.data.toList = some (numT t) := by
 obtain ⟨_, h⟩ := (step_ways e).1 h
 rcases h with ⟨_, h⟩ | ⟨h1, h2, h⟩ | ⟨_, _, h⟩
 · unfold wordOf at h
   split at h
   · injection h with a b; cases a
   · split at h
     · injection h with a b; cases a
     · cases h
 · have ht := numOf_tok h
   unfold numOf at h
   split at h
   · cases h
   · rename_i h9
     rw [← ht] at h9
     refine ⟨by omega, ?_⟩
     have hl : t.data.toList = runB digitB r := by rw [ht]; rfl
     have hd : ∀ b ∈ t.data.toList, digitB b.toNat = true := fun b hb => by rw [hl] at hb; exact tw_mem hb
     have hc : ∃ l, t.data.toList = c :: l := by
      rw [hl, e]
      unfold runB
      rw [List.takeWhile_cons, if_pos h2]
      exact ⟨_, rfl⟩
     obtain ⟨l, hl2⟩ := hc
     have hcd := hd c (by rw [hl2]; simp)
     unfold digitB at hcd
     simp at hcd
     have n1 : (c == 45) = false := beq_false_of_ne (fun e => by subst e; simp at hcd)
     have n2 : (c == 43) = false := beq_false_of_ne (fun e => by subst e; simp at hcd)
     have hf := decFrom_digits t.data.toList 0 hd
     unfold numT
     have e2 : t.toList = t.data.toList := ByteArray.toList_eq t
     rw [e2]
     generalize hL : t.data.toList = L at *
     subst hl2
     simp only [Lib.atoi, n1, n2, Bool.false_eq_true, if_false, Lib.decNat, List.isEmpty_cons, hf, Option.map_some]
 · have := (signsFind_tok h).1
   cases this
theorem atoi_calls {s : Txt} {T : List Tok} (hT : ∀ t ∈ T, Stands s t) : AtoiC T := by
 intro k hk W
 have hlt : k < T.length := kind_lt (by omega)
 have ht := hT _ (List.getElem_mem hlt)
 rw [← tkNext_lt hlt] at ht
 obtain ⟨p, h1, h2, h3, h4, h5⟩ := ht
 rw [hk] at h3
 obtain ⟨h6, h7⟩ := num_atoi (rest_cons h1) h3
 refine (Tryz.strconv_Atoi _ _ (by omega) h7 W).mono ?_
 rintro e w' ⟨rfl, t, rfl⟩
 exact ⟨rfl, Lib.bytesWorld_below _ _ _⟩
end
section
open Go.RowKit
abbrev Tk := Int × Txt
inductive Lexes : List UInt8 → List Tk → Prop
 | nil : Lexes [] []
 | skip {r : List UInt8} {L : List Tk} (h : Lexes r L) : Lexes (32 :: r) L
 | tok {t : Txt} {k : Int} {r : List UInt8} {L : List Tk} (ht : 0 < t.size) (h1 : stepB (bytesOf t ++ r) = .tok k t) (h : Lexes r L) : Lexes (bytesOf t ++ r) ((k, t) :: L)
theorem restOf_add {s : Txt} {a : Nat} {u v : List UInt8} (h : restOf s a = u ++ v) : restOf s (a + u.length) = v := by
 have : restOf s (a + u.length) = (restOf s a).drop u.length := by unfold restOf; rw [List.drop_drop]
 rw [this, h, List.drop_left]
theorem scanGo_reads {S : Txt} {r : List UInt8} {L : List Tk} (hr : Lexes r L) : ∀ (f a : Nat) (l : List Tok), restOf S a = r → a ≤ S.size → S.size - a ≤ f → l.length ≤ 600 → (scanGo S f a l).2.1 = 0 →
 ∃ M, scanGo S f a l = (l ++ M, 0, 0) ∧ M.map (fun x => (x.1, x.2.2)) = L := by
 induction hr with
 | nil =>
   intro f a l hr ha hf hl _
   have h0 : S.size - a = 0 := by rw [← rest_len, hr]; rfl
   exact ⟨[], by rw [scanGo_end (by omega), List.append_nil], rfl⟩
 | @skip r L h ih =>
   intro f a l hr ha hf hl hz
   have hlen : S.size - a = r.length + 1 := by rw [← rest_len, hr, List.length_cons]
   have hlt : a < S.size := by omega
   obtain ⟨f, rfl⟩ : ∃ g, f = g + 1 := ⟨f - 1, by omega⟩
   have h1 : stepOf S a (S[a].toNat) = .skip 1 := by rw [step_rest hlt, hr]; rfl
   rw [scanGo_skip hlt h1] at hz ⊢
   exact ih f (a + 1) l (restOf_add (u := [32]) hr) (by omega) (by omega) hl hz
 | @tok t k r L ht h1 h ih =>
   intro f a l hr ha hf hl hz
   have hlen : S.size - a = t.size + r.length := by rw [← rest_len, hr, List.length_append, bytesOf_len]
   have hlt : a < S.size := by omega
   obtain ⟨f, rfl⟩ : ∃ g, f = g + 1 := ⟨f - 1, by omega⟩
   have h2 : stepOf S a (S[a].toNat) = .tok k t := by rw [step_rest hlt, hr]; exact h1
   by_cases hm : l.length = 600
   · rw [scanGo_many hlt h2 hm] at hz
     have hz2 : (2 : Int) = 0 := hz
     exact absurd hz2 (by decide)
   rw [scanGo_tok hlt h2 hm] at hz ⊢
   have hre : restOf S (a + t.size) = r := by have := restOf_add hr; rwa [bytesOf_len] at this
   obtain ⟨M, e1, e2⟩ := ih f (a + t.size) (l ++ [(k, (a : Int), t)]) hre (by omega) (by omega) (by rw [List.length_append]; simp; omega) hz
   exact ⟨(k, (a : Int), t) :: M, by rw [e1, List.append_assoc]; rfl, by rw [List.map_cons, e2]⟩
theorem scanOf_reads {S : Txt} {L : List Tk} (hr : Lexes (bytesOf S) L) (hz : (scanOf S).2.1 = 0) : ∃ M, scanOf S = (M, 0, 0) ∧ M.map (fun x => (x.1, x.2.2)) = L := by
 unfold scanOf at hz ⊢
 split at hz
 · have hz2 : (2 : Int) = 0 := hz
   exact absurd hz2 (by decide)
 · rename_i h
   rw [if_neg h]
   obtain ⟨M, e1, e2⟩ := scanGo_reads hr S.size 0 [] (by unfold restOf; rw [List.drop_zero]) (Nat.zero_le _) (Nat.le_refl _) (by simp) hz
   exact ⟨M, by rw [e1]; rfl, e2⟩
def Stop (r : List UInt8) : Prop := ∀ c v, r = c :: v → wordB c.toNat = false ∧ c ≠ 61
theorem Stop.nil : Stop [] := fun _ _ h => by cases h
theorem Stop.cons {c : UInt8} {v : List UInt8} (h : wordB c.toNat = false) (h2 : c ≠ 61) : Stop (c :: v) := fun _ _ e => by cases e; exact ⟨h, h2⟩
theorem Stop.eq {r : List UInt8} (h : Stop r) : ∀ v, r ≠ 61 :: v := fun v e => (h 61 v e).2 rfl
theorem run_stop {q : Int → Bool} {t r : List UInt8} (ht : ∀ b ∈ t, q b.toNat = true) (hr : ∀ c v, r = c :: v → q c.toNat = false) : runB q (t ++ r) = t := by
 unfold runB
 cases r with
 | nil => rw [List.append_nil]; exact tw_all ht
 | cons c v =>
   rw [tw_more (hr c v rfl)]
   exact tw_all ht
theorem okAt_word {s : Txt} {b : UInt8} (h : (List.range s.size).all (okAt s) = true) (hb : b ∈ bytesOf s) : wordB b.toNat = true := by
 obtain ⟨i, hi, rfl⟩ := List.getElem_of_mem hb
 rw [List.all_eq_true] at h
 have := h i (by rw [List.mem_range, ← bytesOf_len]; exact hi)
 unfold okAt at this
 have e : s.data.toList.getD i 0 = (bytesOf s)[i] := by
  show (bytesOf s).getD i 0 = _
  rw [List.getD_eq_getElem?_getD, List.getElem?_eq_getElem hi]
  rfl
 rw [e] at this
 unfold wordB
 cases hl : letterB ((bytesOf s)[i].toNat : Int) with
 | true => simp
 | false => rw [hl] at this; simp at this; simp [this.2]
theorem name_parts {s : Txt} (h : isName s = true) : 1 ≤ s.size ∧ isWord s = false ∧ (∀ b ∈ bytesOf s, wordB b.toNat = true) ∧ ∃ c v, bytesOf s = c :: v ∧ letterB c.toNat = true := by
 unfold isName at h
 simp only [Bool.and_eq_true, decide_eq_true_eq] at h
 obtain ⟨⟨⟨h1, h2⟩, h3⟩, h4⟩ := h
 refine ⟨h1, by simpa using h3, fun b hb => okAt_word h4 hb, ?_⟩
 cases hb : bytesOf s with
 | nil => rw [← bytesOf_len, hb] at h1; simp at h1
 | cons c v =>
   refine ⟨c, v, rfl, ?_⟩
   rw [List.all_eq_true] at h4
   have := h4 0 (by rw [List.mem_range]; omega)
   unfold okAt at this
   have e : s.data.toList.getD 0 0 = c := by
    have : s.data.toList = c :: v := hb
    rw [this]; rfl
   rw [e] at this
   simpa using this
theorem letter_plain {c : UInt8} (h : letterB c.toNat = true) : ((c.toNat : Int) == 32) = false ∧ ((c.toNat : Int) == 9) = false ∧ ((c.toNat : Int) == 10) = false ∧ ((c.toNat : Int) == 35) = false := by
 unfold letterB at h
 simp only [Bool.or_eq_true, Bool.and_eq_true, decide_eq_true_eq, beq_iff_eq] at h
 refine ⟨?_, ?_, ?_, ?_⟩ <;> (rw [beq_eq_false_iff_ne]; omega)
theorem stepK_word {t : Txt} {c : UInt8} {v r : List UInt8} (hb : bytesOf t = c :: v) (hc : letterB c.toNat = true) (hw : ∀ b ∈ bytesOf t, wordB b.toNat = true) (hr : Stop r) : stepB (bytesOf t ++ r) = wordOf t := by
 obtain ⟨g1, g2, g3, g4⟩ := letter_plain hc
 rw [stepB_eq (c := c) (u := v ++ r) (by rw [hb, List.cons_append]), g1, g2, g3, g4, hc]
 simp only [Bool.false_eq_true, if_false, if_true]
 rw [run_stop hw fun c v e => (hr c v e).1, txtOf_bytes]
theorem reads_name {s : Txt} (h : isName s = true) {r : List UInt8} {L : List Tk} (hr : Stop r) (hL : Lexes r L) : Lexes (bytesOf s ++ r) ((1, s) :: L) := by
 obtain ⟨h1, h2, h3, c, v, h4, h5⟩ := name_parts h
 refine .tok (by omega) ?_ hL
 rw [stepK_word h4 h5 h3 hr]
 unfold wordOf
 rw [h2, h]
 rfl
theorem reads_word {s : Txt} (h : isWord s = true) {r : List UInt8} {L : List Tk} (hr : Stop r) (hL : Lexes r L) : Lexes (bytesOf s ++ r) ((3, s) :: L) := by
 have hm : s ∈ wordsL := by unfold isWord at h; exact has_iff.1 h
 have hall : ∀ t ∈ wordsL, 0 < t.size ∧ (bytesOf t).all (fun b => wordB b.toNat) = true ∧ ∃ c v, bytesOf t = c :: v ∧ letterB c.toNat = true := by
  intro t ht
  have h0 : ∀ t ∈ wordsL, decide (0 < t.size) && (bytesOf t).all (fun b => wordB b.toNat) && letterB (((bytesOf t).headD 0).toNat) = true := by decide +kernel
  have := h0 t ht
  simp only [Bool.and_eq_true, decide_eq_true_eq] at this
  refine ⟨this.1.1, this.1.2, ?_⟩
  cases hb : bytesOf t with
  | nil => have h2 := this.1.1; rw [← bytesOf_len, hb] at h2; simp at h2
  | cons c v => exact ⟨c, v, rfl, by have h2 := this.2; rw [hb] at h2; exact h2⟩
 obtain ⟨h1, h2, c, v, h4, h5⟩ := hall s hm
 refine .tok h1 ?_ hL
 rw [stepK_word h4 h5 (fun b hb => by rw [List.all_eq_true] at h2; exact h2 b hb) hr]
 unfold wordOf
 rw [h]
 rfl
theorem reads_sign {s : Txt} (hs : s ∈ signsL) {r : List UInt8} {L : List Tk} (hr : ∀ v, r ≠ 61 :: v) (hL : Lexes r L) : Lexes (bytesOf s ++ r) ((4, s) :: L) := by
 refine .tok (signs_full s hs) ?_ hL
 have hh : ∀ t ∈ signsL, ∀ (c : UInt8), c ≠ 61 → signsL.find? (fun x => x.data.toList.isPrefixOf (bytesOf t ++ [c])) = some t := by
  intro t ht c hc
  have hc2 : (61 == c) = false := beq_false_of_ne (Ne.symm hc)
  simp only [signsL, List.mem_cons, List.not_mem_nil, or_false] at ht
  rcases ht with rfl | rfl | rfl | rfl | rfl | rfl | rfl | rfl | rfl | rfl | rfl | rfl | rfl | rfl | rfl | rfl | rfl | rfl | rfl | rfl | rfl | rfl <;>
   simp [signsL, List.find?, bytesOf, List.isPrefixOf, hc2]
 have hn : ∀ t ∈ signsL, signsL.find? (fun x => x.data.toList.isPrefixOf (bytesOf t)) = some t := by decide +kernel
 have h2 : signsL.find? (fun x => x.data.toList.isPrefixOf (bytesOf s ++ r)) = some s := by
  cases r with
  | nil => rw [List.append_nil]; exact hn s hs
  | cons c v =>
    have := hh s hs c (fun e => hr v (by rw [e]))
    rw [← this]
    refine find_same fun x hx => ?_
    have h2x : x.data.toList.length ≤ 2 := (by decide +kernel : ∀ t ∈ signsL, t.data.toList.length ≤ 2) x hx
    have h1s : 1 ≤ (bytesOf s).length := by rw [bytesOf_len]; exact signs_full s hs
    have e : bytesOf s ++ c :: v = (bytesOf s ++ [c]) ++ v := by simp
    rw [e, Bool.eq_iff_iff, List.isPrefixOf_iff_prefix, List.isPrefixOf_iff_prefix]
    constructor
    · intro hp
      exact List.prefix_of_prefix_length_le hp (List.prefix_append _ _) (by rw [List.length_append, List.length_singleton]; omega)
    · intro hp; exact hp.trans (List.prefix_append _ _)
 have hb : ∀ t ∈ signsL, ((bytesOf t).headD 0).toNat ≠ 32 ∧ ((bytesOf t).headD 0).toNat ≠ 9 ∧ ((bytesOf t).headD 0).toNat ≠ 10 ∧ ((bytesOf t).headD 0).toNat ≠ 35 ∧ letterB ((bytesOf t).headD 0).toNat = false ∧ digitB ((bytesOf t).headD 0).toNat = false := by decide +kernel
 obtain ⟨b1, b2, b3, b4, b5, b6⟩ := hb s hs
 cases hx : bytesOf s with
 | nil => have := signs_full s hs; rw [← bytesOf_len, hx] at this; simp at this
 | cons c v =>
   rw [hx] at b1 b2 b3 b4 b5 b6 h2
   simp only [List.headD_cons] at b1 b2 b3 b4 b5 b6
   rw [List.cons_append] at h2 ⊢
   rw [stepB_eq (c := c) (u := v ++ r) rfl]
   have g : ∀ n : Nat, c.toNat ≠ n → ((c.toNat : Int) == (n : Int)) = false := fun n hn => by rw [beq_eq_false_iff_ne]; omega
   have g1 : ((c.toNat : Int) == 32) = false := g 32 b1
   have g2 : ((c.toNat : Int) == 9) = false := g 9 b2
   have g3 : ((c.toNat : Int) == 10) = false := g 10 b3
   have g4 : ((c.toNat : Int) == 35) = false := g 35 b4
   rw [g1, g2, g3, g4, b5, b6]
   simp only [Bool.false_eq_true, if_false]
   unfold signsFind
   have h3 : signsL.find? (fun x => Lib.hasPrefix (c :: (v ++ r)) x.data.toList) = some s := h2
   rw [h3]
theorem digits_len (k : Nat) : ∀ u, u < 10 ^ (k + 1) → (Lib.decDigits u).length ≤ k + 1 := by
 induction k with
 | zero => intro u h; rw [Lib.decDigits, dif_pos (by omega)]; simp
 | succ k ih =>
   intro u h
   rw [Lib.decDigits]
   split
   · simp
   · rw [List.length_append, List.length_singleton]
     have := ih (u / 10) (by rw [Nat.pow_succ] at h; omega)
     omega
theorem digit_of (d : Nat) (h : d < 10) : (UInt8.ofNat (48 + d)).toNat = 48 + d := by
 rw [UInt8.toNat_ofNat']
 exact Nat.mod_eq_of_lt (by omega)
theorem digits_mem : ∀ u, ∀ b ∈ Lib.decDigits u, digitB b.toNat = true := by
 intro u
 induction u using Nat.strongRecOn with
 | _ u ih =>
   intro b hb
   rw [Lib.decDigits] at hb
   split at hb
   · rename_i h
     rw [List.mem_singleton] at hb
     subst hb
     rw [digit_of u h]
     unfold digitB
     simp
     omega
   · rename_i h
     rcases List.mem_append.1 hb with hb | hb
     · exact ih (u / 10) (by omega) b hb
     · rw [List.mem_singleton] at hb
       subst hb
       rw [digit_of (u % 10) (by omega)]
       unfold digitB
       simp
       omega
theorem digits_head : ∀ u, 10 ≤ u → ∃ c v, Lib.decDigits u = c :: v ∧ c.toNat ≠ 48 := by
 intro u
 induction u using Nat.strongRecOn with
 | _ u ih =>
   intro hu
   rw [Lib.decDigits, dif_neg (by omega)]
   by_cases h : u / 10 < 10
   · rw [Lib.decDigits, dif_pos h]
     exact ⟨_, _, rfl, by rw [digit_of _ h]; omega⟩
   · obtain ⟨c, v, e, hc⟩ := ih (u / 10) (by omega) (by omega)
     rw [e]
     exact ⟨c, _, rfl, hc⟩
theorem digits_num : ∀ u : Nat, (Lib.decDigits u).foldl (fun n (b : UInt8) => n * 10 + (b.toNat - 48)) 0 = u := by
 intro u
 induction u using Nat.strongRecOn with
 | _ u ih =>
   rw [Lib.decDigits]
   split
   · rename_i h
     rw [List.foldl_cons, List.foldl_nil, digit_of u h]
     omega
   · rename_i h
     rw [List.foldl_append, ih (u / 10) (by omega), List.foldl_cons, List.foldl_nil, digit_of (u % 10) (by omega)]
     omega
theorem itoa_nat {n : Int} (h : 0 ≤ n) : Lib.itoa n = Lib.decDigits n.toNat := by unfold Lib.itoa; rw [if_neg (by omega)]
theorem numT_itoa {n : Int} (h : 0 ≤ n) : numT ⟨(Lib.itoa n).toArray⟩ = n := by
 unfold numT
 have e : (⟨(Lib.itoa n).toArray⟩ : ByteArray).toList = Lib.decDigits n.toNat := by rw [ByteArray.toList_eq, itoa_nat h]
 rw [e, digits_num]
 omega
theorem reads_num {n : Int} (h0 : 0 ≤ n) (h9 : n ≤ 999999999) {r : List UInt8} {L : List Tk} (hr : Stop r) (hL : Lexes r L) : Lexes (Lib.itoa n ++ r) ((2, ⟨(Lib.itoa n).toArray⟩) :: L) := by
 have hb : bytesOf ⟨(Lib.itoa n).toArray⟩ = Lib.itoa n := bytesOf_txtOf _
 have hsz : (⟨(Lib.itoa n).toArray⟩ : ByteArray).size = (Lib.itoa n).length := txtOf_size _
 have hl := digits_len 8 n.toNat (by omega)
 rw [← itoa_nat h0] at hl
 have hne : 0 < (Lib.itoa n).length := by
  rw [itoa_nat h0, Lib.decDigits]
  split <;> simp
 have := Lexes.tok (t := ⟨(Lib.itoa n).toArray⟩) (k := 2) (r := r) (L := L) (by rw [hsz]; exact hne) ?_ hL
 · rw [hb] at this; exact this
 · rw [hb]
   have hm := digits_mem n.toNat
   rw [← itoa_nat h0] at hm
   cases hx : Lib.itoa n with
   | nil => rw [hx] at hne; simp at hne
   | cons c v =>
     have hc := hm c (by rw [hx]; simp)
     have hlt : letterB c.toNat = false := by
      unfold digitB at hc
      simp at hc
      unfold letterB
      simp
      omega
     have g : ((c.toNat : Int) == 32) = false ∧ ((c.toNat : Int) == 9) = false ∧ ((c.toNat : Int) == 10) = false ∧ ((c.toNat : Int) == 35) = false := by
      unfold digitB at hc
      simp at hc
      refine ⟨?_, ?_, ?_, ?_⟩ <;> (rw [beq_eq_false_iff_ne]; omega)
     rw [stepB_eq (c := c) (u := v ++ r) (by rw [List.cons_append]), g.1, g.2.1, g.2.2.1, g.2.2.2, hlt, hc]
     simp only [Bool.false_eq_true, if_false, if_true]
     rw [← hx, run_stop hm fun c v e => by
      have := (hr c v e).1
      unfold wordB at this
      simp only [Bool.or_eq_false_iff] at this
      exact this.2]
     have e : txtOf (Lib.itoa n) = ⟨(Lib.itoa n).toArray⟩ := rfl
     rw [e]
     unfold numOf
     rw [hsz, if_neg (by omega), if_neg]
     rintro ⟨a1, a2⟩
     by_cases hu : n.toNat < 10
     · rw [itoa_nat h0, Lib.decDigits, dif_pos hu] at a1
       simp at a1
     · obtain ⟨c', v', e', hc'⟩ := digits_head n.toNat (by omega)
       rw [← itoa_nat h0, hx] at e'
       injection e' with e1 e2
       subst e1
       omega
end
section
open Go.RowKit
structure Item (s : Txt) (K : List Tk) : Prop where
 rd : ∀ r L, Stop r → Lexes r L → Lexes (bytesOf s ++ r) (K ++ L)
 hd : ∀ r, Stop r → ∀ v, bytesOf s ++ r ≠ 61 :: v
def sepTk (s : Tk) : List (List Tk) → List Tk
 | [] => []
 | x :: l => x ++ (l.map (s :: ·)).flatten
def quoteK (b : Bool) (K : List Tk) : List Tk := if b then (4, tLeft) :: (K ++ [(4, tRight)]) else K
def polK (p : Pol) : List Tk := (1, p.1) :: (4, tColon) :: sepTk (4, tComma) (p.2.map fun s => [(1, s)])
def labK (l : Lab) : List Tk := (4, tOpen) :: (sepTk (4, tSemi) (l.map polK) ++ [(4, tShut)])
mutual
def toksP : Ex → Int → List Tk
 | .mk kind at_ n ty name l a, tight =>
   if kind = 1 then (if ty = 2 then (if n = 1 then [(3, tTrue)] else [(3, tFalse)]) else [(2, ⟨(Lib.itoa n).toArray⟩)])
   else if kind = 2 then [(1, name)]
   else if kind = 4 then (1, name) :: (4, tLeft) :: (sepTk (4, tComma) (toksLP a 0 0) ++ [(4, tRight)])
   else if kind = 5 then (3, tRelease) :: (4, tLeft) :: ((toksLP a 0 0).getD 0 [] ++ (3, tTo) :: (labK l ++ [(4, tRight)]))
   else if a.length = 1 then (4, name) :: (toksLP a 6 0).getD 0 []
   else quoteK (decide (levelT name < tight)) ((toksLP a (levelT name) 1).getD 0 [] ++ (4, name) :: (toksLP a (levelT name) 1).getD 1 [])
def toksLP : List Ex → Int → Int → List (List Tk)
 | [], _, _ => []
 | x :: r, t, d => toksP x t :: toksLP r (t + d) d
end
theorem joinT_bytes (l : List Txt) (sep : Txt) : bytesOf (joinT l sep) = Lib.join (l.map bytesOf) (bytesOf sep) := by
 unfold joinT bytesT
 show bytesOf (txtOf _) = _
 rw [bytesOf_txtOf]
 rfl
theorem item_tail {sep : Txt} {sk : Tk} (hs : ∀ r L, (∀ v, r ≠ 61 :: v) → Lexes r L → Lexes (bytesOf sep ++ r) (sk :: L)) (hst : ∀ r, Stop (bytesOf sep ++ r)) :
 ∀ (l : List (Txt × List Tk)), (∀ p ∈ l, Item p.1 p.2) → ∀ r L, Stop r → Lexes r L →
   Lexes (Lib.joinTail (bytesOf sep) (l.map fun p => bytesOf p.1) ++ r) ((l.map fun p => sk :: p.2).flatten ++ L) ∧ Stop (Lib.joinTail (bytesOf sep) (l.map fun p => bytesOf p.1) ++ r) := by
 intro l
 induction l with
 | nil => intro _ r L hr hL; exact ⟨by simpa [Lib.joinTail] using hL, by simpa [Lib.joinTail] using hr⟩
 | cons p l ih =>
   intro h r L hr hL
   obtain ⟨h1, h2⟩ := ih (fun q hq => h q (List.mem_cons_of_mem _ hq)) r L hr hL
   have hp := h p List.mem_cons_self
   have h3 := hs _ _ (hp.hd _ h2) (hp.rd _ _ h2 h1)
   have e1 : Lib.joinTail (bytesOf sep) ((p :: l).map fun p => bytesOf p.1) ++ r = bytesOf sep ++ (bytesOf p.1 ++ (Lib.joinTail (bytesOf sep) (l.map fun p => bytesOf p.1) ++ r)) := by
    simp [Lib.joinTail]
   have e2 : ((p :: l).map fun p => sk :: p.2).flatten ++ L = sk :: (p.2 ++ ((l.map fun p => sk :: p.2).flatten ++ L)) := by simp
   rw [e1, e2]
   exact ⟨h3, hst _⟩
theorem item_join {sep : Txt} {sk : Tk} (hs : ∀ r L, (∀ v, r ≠ 61 :: v) → Lexes r L → Lexes (bytesOf sep ++ r) (sk :: L)) (hst : ∀ r, Stop (bytesOf sep ++ r))
 (l : List (Txt × List Tk)) (h : ∀ p ∈ l, Item p.1 p.2) : Item (joinT (l.map (·.1)) sep) (sepTk sk (l.map (·.2))) := by
 cases l with
 | nil => exact ⟨fun r L _ hL => hL, fun r hr => hr.eq⟩
 | cons p l =>
   have hp := h p List.mem_cons_self
   have hall : ∀ q ∈ l, Item q.1 q.2 := fun q hq => h q (List.mem_cons_of_mem _ hq)
   have e1 : bytesOf (joinT ((p :: l).map (·.1)) sep) = bytesOf p.1 ++ Lib.joinTail (bytesOf sep) (l.map fun p => bytesOf p.1) := by
    rw [joinT_bytes, List.map_cons, List.map_cons, Lib.join_cons, List.map_map]
    rfl
   have e2 : sepTk sk ((p :: l).map (·.2)) = p.2 ++ (l.map fun p => sk :: p.2).flatten := by
    rw [List.map_cons, sepTk, List.map_map]
    rfl
   rw [e2]
   constructor
   · intro r L hr hL
     obtain ⟨h1, h2⟩ := item_tail hs hst l hall r L hr hL
     rw [e1, List.append_assoc, List.append_assoc]
     exact hp.rd _ _ h2 h1
   · intro r hr
     rw [e1, List.append_assoc]
     by_cases hl : l = []
     · subst hl
       simpa [Lib.joinTail] using hp.hd r hr
     · refine hp.hd _ ?_
       obtain ⟨q, m, rfl⟩ := List.exists_cons_of_ne_nil hl
       have e3 : Lib.joinTail (bytesOf sep) ((q :: m).map fun p => bytesOf p.1) ++ r = bytesOf sep ++ (bytesOf q.1 ++ (Lib.joinTail (bytesOf sep) (m.map fun p => bytesOf p.1) ++ r)) := by simp [Lib.joinTail]
       rw [e3]
       exact hst _
theorem item_name {s : Txt} (h : isName s = true) : Item s [(1, s)] := by
 refine ⟨fun r L hr hL => reads_name h hr hL, fun r hr v e => ?_⟩
 obtain ⟨_, _, _, c, u, hb, hc⟩ := name_parts h
 rw [hb, List.cons_append] at e
 injection e with e1 e2
 subst e1
 exact absurd hc (by decide)
theorem stop_sep (s : Txt) (c : UInt8) (v : List UInt8) (h : bytesOf s = c :: v) (hw : wordB c.toNat = false) (hc : c ≠ 61) (r : List UInt8) : Stop (bytesOf s ++ r) := by
 rw [h, List.cons_append]
 exact Stop.cons hw hc
theorem item_names {l : List Txt} (h : ∀ s ∈ l, isName s = true) : Item (joinT l tComma) (sepTk (4, tComma) (l.map fun s => [(1, s)])) := by
 have := item_join (sep := tComma) (sk := (4, tComma)) (fun r L hr hL => reads_sign (by decide) hr hL) (stop_sep tComma 44 [] rfl (by decide) (by decide)) (l.map fun s => (s, [(1, s)])) (fun p hp => by
  obtain ⟨s, hs, rfl⟩ := List.mem_map.1 hp
  exact item_name (h s hs))
 rw [List.map_map, List.map_map] at this
 have e : l.map ((fun p : Txt × List Tk => p.1) ∘ fun s => (s, [(1, s)])) = l := by
  rw [show ((fun p : Txt × List Tk => p.1) ∘ fun s => (s, [((1 : Int), s)])) = id from rfl, List.map_id]
 rw [e] at this
 exact this
theorem item_pol {p : Pol} (h : isName p.1 = true) (h2 : ∀ s ∈ p.2, isName s = true) : Item (polT p) (polK p) := by
 have hb : ∀ r, bytesOf (polT p) ++ r = bytesOf p.1 ++ (bytesOf tColon ++ (bytesOf (joinT p.2 tComma) ++ r)) := fun r => by
  unfold polT
  rw [bytesOf_append, bytesOf_append, List.append_assoc, List.append_assoc]
  rfl
 have hi := item_names h2
 have hst : ∀ r, Stop (bytesOf tColon ++ r) := stop_sep tColon 58 [] rfl (by decide) (by decide)
 constructor
 · intro r L hr hL
   rw [hb]
   exact reads_name h (hst _) (reads_sign (by decide) (hi.hd _ hr) (hi.rd _ _ hr hL))
 · intro r hr v e
   rw [hb] at e
   exact (item_name h).hd _ (hst _) v e
theorem fits_parts {l : Lab} (h : fitsB l = true) : longL l = false ∧ ∀ p ∈ l, isName p.1 = true ∧ ∀ s ∈ p.2, isName s = true := by
 unfold fitsB at h
 rw [Bool.and_eq_true] at h
 obtain ⟨h1, h2⟩ := h
 refine ⟨?_, fun p hp => ?_⟩
 · unfold printE at h1
   cases hl : longL l with
   | false => rfl
   | true => rw [hl] at h1; exact absurd h1 (by decide)
 · have h3 : ¬ (anyBy l fun p => !isName p.1 || !(!anyBy p.2 fun s => !isName s)) = true := by simpa using h2
   have h4 : (!isName p.1 || !(!anyBy p.2 fun s => !isName s)) = false := by
    cases hx : (!isName p.1 || !(!anyBy p.2 fun s => !isName s)) with
    | false => rfl
    | true => exact absurd (List.any_eq_true.2 ⟨p, hp, hx⟩) h3
   rw [Bool.or_eq_false_iff] at h4
   refine ⟨by simpa using h4.1, fun s hs => ?_⟩
   cases hy : isName s with
   | true => rfl
   | false =>
     have : (anyBy p.2 fun s => !isName s) = true := List.any_eq_true.2 ⟨s, hs, by rw [hy]; rfl⟩
     rw [this] at h4
     exact absurd h4.2 (by decide)
theorem item_label {l : Lab} (h : fitsB l = true) : Item (printS l) (labK l) := by
 obtain ⟨h1, h2⟩ := fits_parts h
 have e : printS l = tOpen ++ joinT (l.map polT) tSemi ++ tShut := by unfold printS; rw [h1]; rfl
 have hi := item_join (sep := tSemi) (sk := (4, tSemi)) (fun r L hr hL => reads_sign (by decide) hr hL) (stop_sep tSemi 59 [] rfl (by decide) (by decide)) (l.map fun p => (polT p, polK p)) (fun q hq => by
  obtain ⟨p, hp, rfl⟩ := List.mem_map.1 hq
  exact item_pol (h2 p hp).1 (h2 p hp).2)
 rw [List.map_map, List.map_map] at hi
 have hi' : Item (joinT (l.map polT) tSemi) (sepTk (4, tSemi) (l.map polK)) := hi
 have hb : ∀ r, bytesOf (printS l) ++ r = bytesOf tOpen ++ (bytesOf (joinT (l.map polT) tSemi) ++ (bytesOf tShut ++ r)) := fun r => by
  rw [e, bytesOf_append, bytesOf_append, List.append_assoc, List.append_assoc]
 have hst : ∀ r, Stop (bytesOf tShut ++ r) := stop_sep tShut 125 [] rfl (by decide) (by decide)
 constructor
 · intro r L hr hL
   rw [hb]
   have := reads_sign (s := tOpen) (by decide) (hi'.hd _ (hst r)) (hi'.rd _ _ (hst r) (reads_sign (s := tShut) (by decide) hr.eq hL))
   rw [labK, List.cons_append, List.append_assoc]
   exact this
 · intro r hr v e2
   rw [hb] at e2
   have : (123 : UInt8) = 61 := (List.cons.inj e2).1
   exact absurd this (by decide)
theorem level_sign {s : Txt} (h : 0 < levelT s) : s ∈ signsL := by
 unfold levelT at h
 split at h
 · rename_i e; rw [e]; decide
 split at h
 · rename_i e; rw [e]; decide
 split at h
 · rename_i e; exact (by decide : ∀ t ∈ ([⟨#[61, 61]⟩, ⟨#[33, 61]⟩, ⟨#[60]⟩, ⟨#[60, 61]⟩, ⟨#[62]⟩, ⟨#[62, 61]⟩] : List Txt), t ∈ signsL) _ e
 split at h
 · rename_i e; exact (by decide : ∀ t ∈ ([⟨#[43]⟩, ⟨#[45]⟩] : List Txt), t ∈ signsL) _ e
 split at h
 · rename_i e; exact (by decide : ∀ t ∈ ([⟨#[42]⟩, ⟨#[47]⟩, ⟨#[37]⟩] : List Txt), t ∈ signsL) _ e
 · omega
theorem levelK_range (s : Txt) : levelT s = 0 ∨ levelT s = 1 ∨ levelT s = 2 ∨ levelT s = 3 ∨ levelT s = 4 ∨ levelT s = 5 := by
 unfold levelT
 repeat' split
 all_goals omega
theorem toksLP_map (f : Ex → Int → Txt × List Tk) (hf : ∀ x t, f x t = (textP x t, toksP x t)) : ∀ (l : List Ex) (t : Int), (l.map fun x => f x t).map (·.1) = textsP l t 0 ∧ (l.map fun x => f x t).map (·.2) = toksLP l t 0
 | [], t => ⟨by simp [textsP], by simp [toksLP]⟩
 | x :: l, t => by
   have := toksLP_map f hf l t
   simp only [List.map_cons, textsP, toksLP, Int.add_zero]
   rw [this.1, this.2, hf]
   exact ⟨rfl, rfl⟩
theorem item_quote {s : Txt} {K : List Tk} (b : Bool) (h : Item s K) : Item (quoteT b s) (quoteK b K) := by
 cases b with
 | false => exact h
 | true =>
   have hb : ∀ r, bytesOf (quoteT true s) ++ r = bytesOf tLeft ++ (bytesOf s ++ (bytesOf tRight ++ r)) := fun r => by
    unfold quoteT
    rw [if_pos rfl, bytesOf_append, bytesOf_append, List.append_assoc, List.append_assoc]
   have hst : ∀ r, Stop (bytesOf tRight ++ r) := stop_sep tRight 41 [] rfl (by decide) (by decide)
   constructor
   · intro r L hr hL
     rw [hb, quoteK, if_pos rfl, List.cons_append, List.append_assoc]
     exact reads_sign (by decide) (h.hd _ (hst r)) (h.rd _ _ (hst r) (reads_sign (s := tRight) (by decide) hr.eq hL))
   · intro r hr v e2
     rw [hb] at e2
     have : (40 : UInt8) = 61 := (List.cons.inj e2).1
     exact absurd this (by decide)
theorem stop32 (r : List UInt8) : Stop (32 :: r) := Stop.cons (by decide) (by decide)
theorem item_text : ∀ (n : Nat) (x : Ex), Fm n x → ∀ t, Item (textP x t) (toksP x t) := by
 intro n
 induction n with
 | zero =>
   intro x h
   have hf := h.form
   exfalso
   unfold formB at hf
   simp at hf
 | succ n ih =>
   intro x h t
   have hk := h.kids
   have hw := form_ways h.form
   have ihk : ∀ y ∈ x.kids, ∀ t, Item (textP y t) (toksP y t) := fun y hy t => ih y (hk y hy) t
   clear h hk ih
   obtain ⟨kind, at_, num, ty, name, l, a⟩ := x
   simp only [Ex.kind, Ex.kids, Ex.name, Ex.lab, Ex.num, Ex.ty] at hw ihk
   rcases hw with ⟨rfl, h1, rfl, h2, h3⟩ | ⟨rfl, h1, h2, h3, h4, h5⟩ | ⟨rfl, h1, h2, h3, h4⟩ | ⟨rfl, h1, h2, h3, h4, h5⟩ | ⟨rfl, h1, h2, h3, h4, h5⟩
   · rw [textP, toksP, if_pos rfl, if_pos rfl]
     rcases h3 with ⟨rfl, h3, h4⟩ | ⟨rfl, h3⟩
     · rw [if_neg (by decide), if_neg (by decide)]
       have hb : bytesOf ⟨(Lib.itoa num).toArray⟩ = Lib.itoa num := bytesOf_txtOf _
       refine ⟨fun r L hr hL => by rw [hb]; exact reads_num h3 h4 hr hL, fun r hr v e => ?_⟩
       rw [hb] at e
       have hm := digits_mem num.toNat
       rw [← itoa_nat h3] at hm
       cases hx : Lib.itoa num with
       | nil => rw [hx] at e; exact hr.eq v e
       | cons c u =>
         rw [hx] at e
         have hc := hm c (by rw [hx]; simp)
         have : c = 61 := (List.cons.inj e).1
         subst this
         exact absurd hc (by decide)
     · rw [if_pos rfl, if_pos rfl]
       split
       · exact ⟨fun r L hr hL => reads_word (by decide) hr hL, fun r hr v e => absurd (List.cons.inj e).1 (by decide)⟩
       · exact ⟨fun r L hr hL => reads_word (by decide) hr hL, fun r hr v e => absurd (List.cons.inj e).1 (by decide)⟩
   · rw [textP, toksP, if_neg (by decide), if_pos rfl, if_neg (by decide), if_pos rfl]
     exact item_name h1
   · simp only [textP, toksP, (by decide : ¬ (3 : Int) = 1), (by decide : ¬ (3 : Int) = 2), (by decide : ¬ (3 : Int) = 4), (by decide : ¬ (3 : Int) = 5), if_false]
     rcases h1 with ⟨h1, h5⟩ | ⟨h1, h5⟩
     · rw [if_pos h1, if_pos h1]
       obtain ⟨y, rfl⟩ : ∃ y, a = [y] := by
        cases a with
        | nil => simp at h1
        | cons y b => cases b with
          | nil => exact ⟨y, rfl⟩
          | cons z b => simp at h1
       have hy := ihk y (by simp) 6
       have e1 : (textsP [y] 6 0).getD 0 ⟨#[]⟩ = textP y 6 := by simp [textsP]
       have e2 : (toksLP [y] 6 0).getD 0 [] = toksP y 6 := by simp [toksLP]
       rw [e1, e2]
       have hs : name ∈ signsL := by rcases h5 with rfl | rfl <;> decide
       constructor
       · intro r L hr hL
         rw [bytesOf_append, List.append_assoc]
         exact reads_sign hs (hy.hd _ hr) (hy.rd _ _ hr hL)
       · intro r hr v e
         rw [bytesOf_append, List.append_assoc] at e
         rcases h5 with rfl | rfl
         · exact absurd (List.cons.inj e).1 (by decide)
         · exact absurd (List.cons.inj e).1 (by decide)
     · rw [if_neg (by omega), if_neg (by omega)]
       refine item_quote _ ?_
       obtain ⟨y, z, rfl⟩ : ∃ y z, a = [y, z] := by
        cases a with
        | nil => simp at h1
        | cons y b => cases b with
          | nil => simp at h1
          | cons z c => cases c with
            | nil => exact ⟨y, z, rfl⟩
            | cons u c => simp at h1
       have e1 : (textsP [y, z] (levelT name) 1).getD 0 ⟨#[]⟩ = textP y (levelT name) := by simp [textsP]
       have e2 : (toksLP [y, z] (levelT name) 1).getD 0 [] = toksP y (levelT name) := by simp [toksLP]
       have e3 : (textsP [y, z] (levelT name) 1).getD 1 ⟨#[]⟩ = textP z (levelT name + 1) := by simp [textsP]
       have e4 : (toksLP [y, z] (levelT name) 1).getD 1 [] = toksP z (levelT name + 1) := by simp [toksLP]
       rw [e1, e2, e3, e4]
       have hy := ihk y (by simp) (levelT name)
       have hz := ihk z (by simp) (levelT name + 1)
       have hb : ∀ r, bytesOf (textP y (levelT name) ++ blank1 ++ name ++ blank1 ++ textP z (levelT name + 1)) ++ r = bytesOf (textP y (levelT name)) ++ (32 :: (bytesOf name ++ (32 :: (bytesOf (textP z (levelT name + 1)) ++ r)))) := fun r => by
        simp only [bytesOf_append, List.append_assoc]
        rfl
       constructor
       · intro r L hr hL
         rw [hb, List.append_assoc, List.cons_append]
         exact hy.rd _ _ (stop32 _) (.skip (reads_sign (level_sign h5) (fun v e => absurd (List.cons.inj e).1 (by decide)) (.skip (hz.rd _ _ hr hL))))
       · intro r hr v e
         rw [hb] at e
         exact hy.hd _ (stop32 _) v e
   · rw [textP, toksP, if_neg (by decide), if_neg (by decide), if_pos rfl, if_neg (by decide), if_neg (by decide), if_pos rfl]
     have hm := toksLP_map (fun x t => (textP x t, toksP x t)) (fun _ _ => rfl) a 0
     have hi := item_join (sep := commaSp) (sk := (4, tComma)) (fun r L hr hL => by
      have e : bytesOf commaSp ++ r = bytesOf tComma ++ (32 :: r) := rfl
      rw [e]
      exact reads_sign (by decide) (fun v e => absurd (List.cons.inj e).1 (by decide)) (.skip hL)) (stop_sep commaSp 44 [32] rfl (by decide) (by decide)) (a.map fun x => (textP x 0, toksP x 0)) (fun p hp => by
      obtain ⟨y, hy, rfl⟩ := List.mem_map.1 hp
      exact ihk y hy 0)
     rw [hm.1, hm.2] at hi
     have hst : ∀ r, Stop (bytesOf tRight ++ r) := stop_sep tRight 41 [] rfl (by decide) (by decide)
     have hst2 : ∀ r, Stop (bytesOf tLeft ++ r) := stop_sep tLeft 40 [] rfl (by decide) (by decide)
     have hb : ∀ r, bytesOf (name ++ (tLeft ++ joinT (textsP a 0 0) commaSp ++ tRight)) ++ r = bytesOf name ++ (bytesOf tLeft ++ (bytesOf (joinT (textsP a 0 0) commaSp) ++ (bytesOf tRight ++ r))) := fun r => by
      simp only [bytesOf_append, List.append_assoc]
     constructor
     · intro r L hr hL
       rw [hb, List.cons_append, List.cons_append, List.append_assoc]
       exact reads_name h1 (hst2 _) (reads_sign (by decide) (hi.hd _ (hst r)) (hi.rd _ _ (hst r) (reads_sign (s := tRight) (by decide) hr.eq hL)))
     · intro r hr v e
       rw [hb] at e
       exact (item_name h1).hd _ (hst2 _) v e
   · rw [textP, toksP, if_neg (by decide), if_neg (by decide), if_neg (by decide), if_pos rfl, if_neg (by decide), if_neg (by decide), if_neg (by decide), if_pos rfl]
     obtain ⟨y, rfl⟩ : ∃ y, a = [y] := by
      cases a with
      | nil => simp at h1
      | cons y b => cases b with
        | nil => exact ⟨y, rfl⟩
        | cons z b => simp at h1
     have hy := ihk y (by simp) 0
     have e1 : (textsP [y] 0 0).getD 0 ⟨#[]⟩ = textP y 0 := by simp [textsP]
     have e2 : (toksLP [y] 0 0).getD 0 [] = toksP y 0 := by simp [toksLP]
     rw [e1, e2]
     have hl := item_label h3
     have hb : ∀ r, bytesOf (releaseT ++ textP y 0 ++ toT ++ printS l ++ tRight) ++ r = bytesOf tRelease ++ (bytesOf tLeft ++ (bytesOf (textP y 0) ++ (32 :: (bytesOf tTo ++ (32 :: (bytesOf (printS l) ++ (bytesOf tRight ++ r))))))) := fun r => by
      simp only [bytesOf_append, List.append_assoc]
      rfl
     have hst : ∀ r, Stop (bytesOf tRight ++ r) := stop_sep tRight 41 [] rfl (by decide) (by decide)
     have hst2 : ∀ r, Stop (bytesOf tLeft ++ r) := stop_sep tLeft 40 [] rfl (by decide) (by decide)
     constructor
     · intro r L hr hL
       rw [hb]
       simp only [List.cons_append, List.append_assoc]
       refine reads_word (by decide) (hst2 _) (reads_sign (by decide) (hy.hd _ (stop32 _)) (hy.rd _ _ (stop32 _) (.skip (reads_word (by decide) (stop32 _) (.skip (hl.rd _ _ (hst _) (reads_sign (s := tRight) (by decide) hr.eq hL)))))))
     · intro r hr v e
       rw [hb] at e
       exact absurd (List.cons.inj e).1 (by decide)
end
section
open Go.RowKit
section
variable {T : List Tok} {E : Int}
def Lies (T : List Tok) (k : Nat) (K : List Tk) : Prop := (T.drop k).map (fun t => (t.1, t.2.2)) = K
theorem Lies.cons {k : Nat} {a : Tk} {K : List Tk} (h : Lies T k (a :: K)) : k < T.length ∧ (tkNext T k).1 = a.1 ∧ (tkNext T k).2.2 = a.2 ∧ Lies T (k + 1) K := by
 unfold Lies at h
 by_cases hk : k < T.length
 · rw [List.drop_eq_getElem_cons hk, List.map_cons] at h
   injection h with h1 h2
   have e : tkNext T k = T[k] := by unfold tkNext; rw [List.getElem?_eq_getElem hk]; rfl
   refine ⟨hk, ?_, ?_, h2⟩
   · rw [e, ← h1]
   · rw [e, ← h1]
 · rw [List.drop_eq_nil_of_le (by omega)] at h
   cases h
theorem Lies.nil {k : Nat} (h : Lies T k []) : tkNext T k = (0, 0, ⟨#[]⟩) ∧ T.length ≤ k := by
 unfold Lies at h
 have h2 : (T.drop k).length = 0 := by have := congrArg List.length h; simpa using this
 rw [List.length_drop] at h2
 have hk : T.length ≤ k := by omega
 exact ⟨by unfold tkNext; rw [List.getElem?_eq_none hk]; rfl, hk⟩
theorem Lies.skip {k : Nat} {A K : List Tk} (h : Lies T k (A ++ K)) : Lies T (k + A.length) K := by
 unfold Lies at h ⊢
 have := congrArg (List.drop A.length) h
 rw [List.drop_left, ← List.map_drop, List.drop_drop] at this
 exact this
theorem Lies.len {k : Nat} {K : List Tk} (h : Lies T k K) : K.length = T.length - k := by
 unfold Lies at h
 rw [← h, List.length_map, List.length_drop]
theorem Lies.is {k : Nat} {a : Tk} {K : List Tk} (h : Lies T k (a :: K)) (s : Txt) : tkIs T k s = ((a.1 == 3 || a.1 == 4) && a.2 == s) := by
 obtain ⟨_, h1, h2, _⟩ := h.cons
 unfold tkIs
 rw [h1, h2]
theorem Lies.must {k : Nat} {c : Int} {s : Txt} {K : List Tk} (h : Lies T k ((c, s) :: K)) (hc : c = 3 ∨ c = 4) : mustP T E s k = .ok () (k + 1) := by
 unfold mustP
 rw [h.is s]
 have : ((c == 3 || c == 4) && s == s) = true := by rcases hc with rfl | rfl <;> simp
 rw [if_pos this]
theorem Lies.name {k : Nat} {s : Txt} {K : List Tk} (h : Lies T k ((1, s) :: K)) : nameP T E k = .ok s (k + 1) := by
 obtain ⟨_, h1, h2, _⟩ := h.cons
 unfold nameP
 rw [if_pos h1, h2]
def opLev : List Tk → Int
 | (c, s) :: _ => if c = 4 then levelT s else 0
 | [] => 0
theorem opLev_none {k : Nat} {K : List Tk} (h : Lies T k K) {lv : Int} (hl : 0 < lv) (hn : opLev K ≠ lv) : (tkNext T k).1 ≠ 4 ∨ levelT (tkNext T k).2.2 ≠ lv := by
 cases K with
 | nil => left; rw [h.nil.1]; decide
 | cons a K =>
   obtain ⟨c, s⟩ := a
   obtain ⟨_, h1, h2, _⟩ := h.cons
   rw [h1, h2]
   by_cases hc : c = 4
   · right
     have e : opLev ((c, s) :: K) = levelT s := by show (if c = 4 then levelT s else 0) = _; rw [if_pos hc]
     rw [e] at hn
     exact hn
   · left; exact hc
theorem opLoop_ends {one : Nat → Rs Ex} {lv : Int} {f : Nat} {x : Ex} {k : Nat} {K : List Tk} (h : Lies T k K) (hl : 0 < lv) (hn : opLev K ≠ lv) : opLoop T one lv f x k = .ok x k := by
 cases f with
 | zero => rfl
 | succ f => unfold opLoop; rw [if_pos (opLev_none h hl hn)]
theorem opLoop_step {one : Nat → Rs Ex} {lv : Int} {f : Nat} {x : Ex} {k : Nat} {s : Txt} {K : List Tk} (h : Lies T k ((4, s) :: K)) (hn : levelT s = lv) :
 opLoop T one lv (f + 1) x k = (one (k + 1)).bind fun y k' => opLoop T one lv f (.mk 3 (tkNext T k).2.1 0 0 s [] [x, y]) k' := by
 obtain ⟨_, h1, h2, _⟩ := h.cons
 rw [opLoop, if_neg, h2]
 rw [h1, h2]
 rintro (h | h)
 · exact h rfl
 · exact h hn
def After (K : List Tk) (lv : Int) : Prop := opLev K ≤ lv ∧ ∀ a L, K = a :: L → ((a.1 == 3 || a.1 == 4) && a.2 == tLeft) = false
theorem After.mono {K : List Tk} {a b : Int} (h : After K a) (hab : a ≤ b) : After K b := ⟨by have := h.1; omega, h.2⟩
def Ends (T : List Tok) (prim : Nat → Rs Ex) (j k : Nat) (y : Ex) (k' : Nat) : Prop := match j with
 | 0 => prim k = .ok y k'
 | j + 1 => ∃ f, T.length ≤ f + (k' - k) ∧ exprL T prim (j + 1) k = opLoop T (exprL T prim j) (5 - (j : Int)) f y k'
theorem Ends.done {prim : Nat → Rs Ex} {j k : Nat} {y : Ex} {k' : Nat} {K : List Tk} (h : Ends T prim j k y k') (hj : j ≤ 5) (hL : Lies T k' K) (hK : opLev K < 6 - (j : Int)) : exprL T prim j k = .ok y k' := by
 cases j with
 | zero => exact h
 | succ j =>
   obtain ⟨f, _, h⟩ := h
   rw [h]
   exact opLoop_ends hL (by omega) (by omega)
theorem climb {prim : Nat → Rs Ex} {j0 k : Nat} {y : Ex} {k' : Nat} {K : List Tk} (h : exprL T prim j0 k = .ok y k') (hL : Lies T k' K) : ∀ j, j0 < j → j ≤ 5 → opLev K ≤ 6 - (j : Int) → Ends T prim j k y k' := by
 intro j
 induction j with
 | zero => intro h1; omega
 | succ j ih =>
   intro h1 h2 h3
   have hj : exprL T prim j k = .ok y k' := by
    by_cases he : j = j0
    · subst he; exact h
    · exact (ih (by omega) (by omega) (by omega)).done (by omega) hL (by omega)
   refine ⟨T.length, by omega, ?_⟩
   rw [exprL, hj]
   rfl
inductive Each2 {α β : Type} (P : α → β → Prop) : List α → List β → Prop
 | nil : Each2 P [] []
 | cons {a : α} {b : β} {l : List α} {m : List β} (h : P a b) (ht : Each2 P l m) : Each2 P (a :: l) (b :: m)
theorem listGo_reads {α β : Type} {P : β → α → Prop} {one : Nat → Rs α} {most : Nat} {sign : Txt} {e : Tk} (he : ((e.1 == 3 || e.1 == 4) && e.2 == sign) = false) :
 ∀ (items : List (β × List Tk)) (f : Nat) (l : List α) (k : Nat) (K : List Tk), items.length ≤ f → l.length + items.length ≤ most → Lies T k ((items.map fun p => (4, sign) :: p.2).flatten ++ e :: K) →
   (∀ p ∈ items, ∀ k a K', (a = (4, sign) ∨ a = e) → Lies T k (p.2 ++ a :: K') → ∃ y, P p.1 y ∧ one k = .ok y (k + p.2.length)) →
   ∃ ys, listGo T E one most sign f l k = .ok (l ++ ys) (k + (items.map fun p => (4, sign) :: p.2).flatten.length) ∧ Each2 P (items.map (·.1)) ys := by
 intro items
 induction items with
 | nil =>
   intro f l k K _ _ hL _
   refine ⟨[], ?_, .nil⟩
   rw [List.append_nil]
   have hL' : Lies T k (e :: K) := hL
   cases f with
   | zero => rfl
   | succ f =>
     rw [listGo, hL'.is sign, he, if_neg (by decide)]
     rfl
 | cons p items ih =>
   intro f l k K hf hm hL hone
   rw [List.length_cons] at hf hm
   obtain ⟨f, rfl⟩ : ∃ g, f = g + 1 := ⟨f - 1, by omega⟩
   have e1 : ((p :: items).map fun p => ((4 : Int), sign) :: p.2).flatten ++ e :: K = (4, sign) :: (p.2 ++ ((items.map fun p => (4, sign) :: p.2).flatten ++ e :: K)) := by simp
   rw [e1] at hL
   have h1 := hL.cons.2.2.2
   have h2 := h1.skip
   obtain ⟨y, hy, ey⟩ : ∃ y, P p.1 y ∧ one (k + 1) = .ok y (k + 1 + p.2.length) := by
    cases items with
    | nil => exact hone p (by simp) (k + 1) e K (.inr rfl) h1
    | cons q items =>
      refine hone p (by simp) (k + 1) (4, sign) (q.2 ++ ((items.map fun p => (4, sign) :: p.2).flatten ++ e :: K)) (.inl rfl) ?_
      simpa using h1
   obtain ⟨ys, g1, g2⟩ := ih f (l ++ [y]) (k + 1 + p.2.length) K (by omega) (by rw [List.length_append, List.length_singleton]; omega) h2 (fun q hq => hone q (by simp [hq]))
   refine ⟨y :: ys, ?_, .cons hy g2⟩
   rw [listGo, hL.is sign]
   have : (((4 : Int) == 3 || (4 : Int) == 4) && sign == sign) = true := by simp
   rw [if_pos this, if_neg (by omega), ey]
   show listGo T E one most sign f (l ++ [y]) (k + 1 + p.2.length) = _
   rw [g1]
   simp only [List.map_cons, List.flatten_cons, List.cons_append, List.length_cons, List.length_append, List.append_assoc, List.nil_append]
   congr 1
   omega
theorem listP_reads {α β : Type} {P : β → α → Prop} {one : Nat → Rs α} {most : Nat} {sign : Txt} {e : Tk} (he : ((e.1 == 3 || e.1 == 4) && e.2 == sign) = false) (p : β × List Tk) (items : List (β × List Tk)) (k : Nat) (K : List Tk)
 (hm : 1 + items.length ≤ most) (hL : Lies T k (sepTk (4, sign) ((p :: items).map (·.2)) ++ e :: K))
 (hone : ∀ p' ∈ p :: items, ∀ k a K', (a = (4, sign) ∨ a = e) → Lies T k (p'.2 ++ a :: K') → ∃ y, P p'.1 y ∧ one k = .ok y (k + p'.2.length)) :
 ∃ ys, listP T E one most sign k = .ok ys (k + (sepTk (4, sign) ((p :: items).map (·.2))).length) ∧ Each2 P ((p :: items).map (·.1)) ys := by
 have e1 : sepTk (4, sign) ((p :: items).map (·.2)) = p.2 ++ (items.map fun p => (4, sign) :: p.2).flatten := by
  rw [List.map_cons, sepTk, List.map_map]
  rfl
 rw [e1] at hL ⊢
 rw [List.append_assoc] at hL
 obtain ⟨y, hy, ey⟩ : ∃ y, P p.1 y ∧ one k = .ok y (k + p.2.length) := by
  cases items with
  | nil => exact hone p (by simp) k e K (.inr rfl) hL
  | cons q items =>
    refine hone p (by simp) k (4, sign) (q.2 ++ ((items.map fun p => (4, sign) :: p.2).flatten ++ e :: K)) (.inl rfl) ?_
    simpa using hL
 obtain ⟨ys, g1, g2⟩ := listGo_reads (E := E) he items most [y] (k + p.2.length) K (by omega) (by simpa using hm) hL.skip (fun q hq => hone q (by simp [hq]))
 refine ⟨y :: ys, ?_, .cons hy g2⟩
 unfold listP
 rw [ey]
 show listGo T E one most sign most [y] (k + p.2.length) = _
 rw [g1, List.length_append]
 simp only [List.cons_append, List.nil_append]
 congr 1
 omega
theorem forall2_eq {α : Type} : ∀ {l m : List α}, Each2 (fun a b => a = b) l m → m = l
 | _, _, .nil => rfl
 | _, _, .cons h1 h2 => by rw [h1, forall2_eq h2]
theorem names_reads {l : List Txt} (hl : l ≠ []) (h6 : l.length ≤ 6) {e : Tk} (he : ((e.1 == 3 || e.1 == 4) && e.2 == tComma) = false) {k : Nat} {K : List Tk} (hL : Lies T k (sepTk (4, tComma) (l.map fun s => [(1, s)]) ++ e :: K)) :
 listP T E (nameP T E) 6 tComma k = .ok l (k + (sepTk (4, tComma) (l.map fun s => [((1 : Int), s)])).length) := by
 obtain ⟨s, m, rfl⟩ := List.exists_cons_of_ne_nil hl
 have e1 : ((s, [((1 : Int), s)]) :: m.map fun s => (s, [((1 : Int), s)])).map (·.2) = (s :: m).map fun s => [((1 : Int), s)] := by
  rw [List.map_cons, List.map_cons, List.map_map]
  rfl
 have e2 : ((s, [((1 : Int), s)]) :: m.map fun s => (s, [((1 : Int), s)])).map (·.1) = s :: m := by
  rw [List.map_cons, List.map_map, show ((fun p : Txt × List Tk => p.1) ∘ fun s => (s, [((1 : Int), s)])) = id from rfl, List.map_id]
 obtain ⟨ys, g1, g2⟩ := listP_reads (E := E) (P := fun a b => a = b) (one := nameP T E) (most := 6) (sign := tComma) he (s, [(1, s)]) (m.map fun s => (s, [(1, s)])) k K (by rw [List.length_map]; rw [List.length_cons] at h6; omega) (by rw [e1]; exact hL) (by
  intro p hp k a K' _ hL
  obtain ⟨t, rfl⟩ : ∃ t, p = (t, [(1, t)]) := by
   rcases List.mem_cons.1 hp with rfl | hp
   · exact ⟨s, rfl⟩
   · obtain ⟨t, _, rfl⟩ := List.mem_map.1 hp
     exact ⟨t, rfl⟩
  exact ⟨t, rfl, Lies.name (s := t) hL⟩)
 rw [e1] at g1
 rw [e2] at g2
 rw [forall2_eq g2] at g1
 exact g1
theorem pol_reads {p : Pol} (h6 : p.2.length ≤ 6) {e : Tk} (he : ((e.1 == 3 || e.1 == 4) && e.2 == tComma) = false) (he1 : e.1 ≠ 1) {k : Nat} {K : List Tk} (hL : Lies T k (polK p ++ e :: K)) :
 polP T E k = .ok p (k + (polK p).length) := by
 obtain ⟨o, rs⟩ := p
 have hL1 : Lies T k ((1, o) :: (4, tColon) :: (sepTk (4, tComma) (rs.map fun s => [(1, s)]) ++ e :: K)) := hL
 have hL2 := hL1.cons.2.2.2
 have hL3 := hL2.cons.2.2.2
 unfold polP
 rw [hL1.name]
 show (mustP T E tColon (k + 1)).bind _ = _
 rw [hL2.must (.inr rfl)]
 show (if (tkNext T (k + 1 + 1)).1 = 1 then _ else _) = _
 cases rs with
 | nil =>
   have hL4 : Lies T (k + 1 + 1) (e :: K) := hL3
   rw [if_neg (by rw [hL4.cons.2.1]; exact he1)]
   rfl
 | cons r rs =>
   have hL4 : Lies T (k + 1 + 1) ((1, r) :: (((rs.map fun s => [((1 : Int), s)]).map ((4, tComma) :: ·)).flatten ++ e :: K)) := by
    rw [List.map_cons, sepTk, List.append_assoc] at hL3
    exact hL3
   rw [if_pos hL4.cons.2.1, names_reads (by simp) h6 he hL3]
   show Rs.ok (o, r :: rs) _ = _
   congr 1
   unfold polK
   simp only [List.length_cons]
   omega
theorem label_reads {l : Lab} (h : fitsB l = true) {k : Nat} {K : List Tk} (hL : Lies T k (labK l ++ K)) : labelP T E k = .ok l (k + (labK l).length) := by
 obtain ⟨h1, h2⟩ := fits_parts h
 have hlen : l.length ≤ 200 := by
  rcases Nat.lt_or_ge 200 l.length with h | h
  · rw [long_many h] at h1; cases h1
  · exact h
 have hp6 : ∀ p ∈ l, p.2.length ≤ 6 := fun p hp => by
  obtain ⟨i, hi, rfl⟩ := List.getElem_of_mem hp
  have : longP l[i] = false := by
   cases hx : longP l[i] with
   | false => rfl
   | true => rw [long_at hi hx] at h1; cases h1
  exact (longP_false this).1
 have hL1 : Lies T k ((4, tOpen) :: (sepTk (4, tSemi) (l.map polK) ++ (4, tShut) :: K)) := by
  unfold labK at hL
  rw [List.cons_append, List.append_assoc] at hL
  exact hL
 have hL2 := hL1.cons.2.2.2
 unfold labelP
 rw [hL1.must (.inr rfl)]
 show (if tkIs T (k + 1) tShut = true then _ else _) = _
 cases l with
 | nil =>
   have hL3 : Lies T (k + 1) ((4, tShut) :: K) := hL2
   rw [hL3.is tShut, if_pos (by decide)]
   rfl
 | cons p l =>
   have hhd : Lies T (k + 1) ((1, p.1) :: (((4, tColon) :: sepTk (4, tComma) (p.2.map fun s => [((1 : Int), s)])) ++ (((l.map polK).map ((4, tSemi) :: ·)).flatten ++ (4, tShut) :: K))) := by
    rw [List.map_cons, sepTk, polK, List.append_assoc] at hL2
    exact hL2
   rw [hhd.is tShut, if_neg (by simp)]
   have e1 : ((p, polK p) :: l.map fun p => (p, polK p)).map (·.2) = (p :: l).map polK := by
    rw [List.map_cons, List.map_cons, List.map_map]
    rfl
   have e2 : ((p, polK p) :: l.map fun p => (p, polK p)).map (·.1) = p :: l := by
    rw [List.map_cons, List.map_map, show ((fun p : Pol × List Tk => p.1) ∘ fun p => (p, polK p)) = id from rfl, List.map_id]
   obtain ⟨ys, g1, g2⟩ := listP_reads (E := E) (P := fun a b => a = b) (one := polP T E) (most := 200) (sign := tSemi) (e := (4, tShut)) (by decide) (p, polK p) (l.map fun p => (p, polK p)) (k + 1) K (by rw [List.length_map]; rw [List.length_cons] at hlen; omega) (by rw [e1]; exact hL2) (by
    intro q hq k a K' ha hL
    obtain ⟨t, ht, rfl⟩ : ∃ t ∈ p :: l, q = (t, polK t) := by
     rcases List.mem_cons.1 hq with rfl | hq
     · exact ⟨p, by simp, rfl⟩
     · obtain ⟨t, ht, rfl⟩ := List.mem_map.1 hq
       exact ⟨t, by simp [ht], rfl⟩
    refine ⟨t, rfl, pol_reads (hp6 t ht) ?_ ?_ hL⟩
    · rcases ha with rfl | rfl <;> decide
    · rcases ha with rfl | rfl <;> decide)
   rw [e1] at g1
   rw [e2] at g2
   rw [forall2_eq g2] at g1
   have hL4 : Lies T (k + 1 + (sepTk (4, tSemi) ((p :: l).map polK)).length) ((4, tShut) :: K) := hL2.skip
   rw [g1]
   show (mustP T E tShut _).bind _ = _
   rw [hL4.must (.inr rfl)]
   show Rs.ok (p :: l) _ = _
   congr 1
   unfold labK
   simp only [List.length_cons, List.length_append, List.length_nil]
   omega
theorem lab_refl (l : Lab) : sameLab l l = true := by
 unfold sameLab
 exact eqF_all rfl fun k h1 h2 => by unfold samePol; simp
def Good (T : List Tok) (E : Int) (d : Nat) (x : Ex) : Prop := ∀ (j k : Nat) (K : List Tk), j ≤ 5 → Lies T k (toksP x (6 - (j : Int)) ++ K) → After K (6 - (j : Int)) →
 ∃ y, sameE x y = true ∧ Ends T (primP T E d) j k y (k + (toksP x (6 - (j : Int))).length)
theorem toksP_zero {x : Ex} {d : Int} (h : formB x d = true) : toksP x 0 = toksP x 1 := by
 have hw := form_ways h
 obtain ⟨kind, at_, n, ty, name, l, a⟩ := x
 simp only [Ex.kind, Ex.kids, Ex.name, Ex.lab, Ex.num, Ex.ty] at hw
 rw [toksP, toksP]
 rcases hw with ⟨rfl, _⟩ | ⟨rfl, _⟩ | ⟨rfl, ⟨h1, _⟩ | ⟨h1, h2⟩, _⟩ | ⟨rfl, _⟩ | ⟨rfl, _⟩
 · rfl
 · rfl
 · rw [h1]; rfl
 · have e0 : decide (levelT name < 0) = false := by simp; omega
   have e1 : decide (levelT name < 1) = false := by simp; omega
   rw [e0, e1]
 · rfl
 · rfl
theorem toksP_head : ∀ (n : Nat) (x : Ex), Fm n x → ∀ t, ∃ a L, toksP x t = a :: L ∧ ((a.1 == 3 || a.1 == 4) && a.2 == tRight) = false := by
 intro n
 induction n with
 | zero =>
   intro x h
   have hf := h.form
   exfalso
   unfold formB at hf
   simp at hf
 | succ n ih =>
   intro x h t
   have hk := h.kids
   have hw := form_ways h.form
   obtain ⟨kind, at_, num, ty, name, l, a⟩ := x
   simp only [Ex.kind, Ex.kids, Ex.name, Ex.lab, Ex.num, Ex.ty] at hw hk
   rw [toksP]
   rcases hw with ⟨rfl, h1, rfl, h2, h3⟩ | ⟨rfl, h1, h2, h3, h4, h5⟩ | ⟨rfl, h1, h2, h3, h4⟩ | ⟨rfl, h1, h2, h3, h4, h5⟩ | ⟨rfl, h1, h2, h3, h4, h5⟩
   · rw [if_pos rfl]
     split
     · split
       · exact ⟨_, _, rfl, by decide⟩
       · exact ⟨_, _, rfl, by decide⟩
     · exact ⟨_, _, rfl, by simp⟩
   · exact ⟨_, _, rfl, by simp⟩
   · simp only [(by decide : ¬ (3 : Int) = 1), (by decide : ¬ (3 : Int) = 2), (by decide : ¬ (3 : Int) = 4), (by decide : ¬ (3 : Int) = 5), if_false]
     rcases h1 with ⟨h1, h5⟩ | ⟨h1, h5⟩
     · rw [if_pos h1]
       refine ⟨_, _, rfl, ?_⟩
       rcases h5 with rfl | rfl <;> decide
     · rw [if_neg (by omega)]
       obtain ⟨y, z, rfl⟩ : ∃ y z, a = [y, z] := by
        cases a with
        | nil => simp at h1
        | cons y b => cases b with
          | nil => simp at h1
          | cons z c => cases c with
            | nil => exact ⟨y, z, rfl⟩
            | cons u c => simp at h1
       unfold quoteK
       split
       · exact ⟨_, _, rfl, by decide⟩
       · obtain ⟨b, L, e, hb⟩ := ih y (hk y (by simp)) (levelT name)
         refine ⟨b, L ++ (4, name) :: (toksLP [y, z] (levelT name) 1).getD 1 [], ?_, hb⟩
         have e2 : (toksLP [y, z] (levelT name) 1).getD 0 [] = toksP y (levelT name) := by simp [toksLP]
         rw [e2, e, List.cons_append]
   · exact ⟨_, _, rfl, by simp⟩
   · exact ⟨_, _, rfl, by show (((3 : Int) == 3 || (3 : Int) == 4) && tRelease == tRight) = false; decide⟩
end
end
section
open Go.RowKit
section
variable {T : List Tok} {E : Int}
theorem prim_eq {d k : Nat} {c : Int} {s : Txt} {K : List Tk} (h : Lies T k ((c, s) :: K)) : primP T E (d + 1) k =
 if c = 2 then .ok (.mk 1 (tkNext T k).2.1 (numT s) 1 ⟨#[]⟩ [] []) (k + 1)
 else if ((c == 3 || c == 4) && s == tTrue) = true then .ok (.mk 1 (tkNext T k).2.1 1 2 ⟨#[]⟩ [] []) (k + 1)
 else if ((c == 3 || c == 4) && s == tFalse) = true then .ok (.mk 1 (tkNext T k).2.1 0 2 ⟨#[]⟩ [] []) (k + 1)
 else if c = 1 then
  (if tkIs T (k + 1) tLeft then (argsP T E (primP T E d) (k + 1)).bind fun l k2 => .ok (.mk 4 (tkNext T k).2.1 0 0 s [] l) k2
   else .ok (.mk 2 (tkNext T k).2.1 0 0 s [] []) (k + 1))
 else if (((c == 3 || c == 4) && s == tMinus) || ((c == 3 || c == 4) && s == tNot)) = true then (primP T E d (k + 1)).bind fun x k2 => .ok (.mk 3 (tkNext T k).2.1 0 0 s [] [x]) k2
 else if ((c == 3 || c == 4) && s == tLeft) = true then (exprL T (primP T E d) 5 (k + 1)).bind fun x k2 => (mustP T E tRight k2).bind fun _ k3 => .ok x k3
 else if ((c == 3 || c == 4) && s == tRelease) = true then (mustP T E tLeft (k + 1)).bind fun _ k1 => (exprL T (primP T E d) 5 k1).bind fun x k2 => (mustP T E tTo k2).bind fun _ k3 => (labelP T E k3).bind fun l k4 =>
  (mustP T E tRight k4).bind fun _ k5 => .ok (.mk 5 (tkNext T k).2.1 0 0 ⟨#[]⟩ l [x]) k5
 else failP T E 1 k := by
 rw [primP]
 show (if (tkNext T k).1 = 2 then _ else _) = _
 rw [h.is tTrue, h.is tFalse, h.is tMinus, h.is tNot, h.is tLeft, h.is tRelease, h.cons.2.1, h.cons.2.2.1]
theorem lab_nil {l : Lab} (h : l.length = 0) : l = [] := List.length_eq_zero_iff.1 h
theorem lev_bounds {s : Txt} (h : 0 < levelT s) : ∃ j : Nat, 1 ≤ j ∧ j ≤ 5 ∧ levelT s = 6 - (j : Int) := by
 rcases levelK_range s with e | e | e | e | e | e
 · omega
 · exact ⟨5, by omega, by omega, by omega⟩
 · exact ⟨4, by omega, by omega, by omega⟩
 · exact ⟨3, by omega, by omega, by omega⟩
 · exact ⟨2, by omega, by omega, by omega⟩
 · exact ⟨1, by omega, by omega, by omega⟩
theorem bare_reads {d : Nat} {a b : Ex} {name : Txt} (hl : 0 < levelT name) (ha : Good T E d a) (hb : Good T E d b) {at_ : Int} {j k : Nat} {K : List Tk} (hj : j ≤ 5) (hlv : 6 - (j : Int) ≤ levelT name)
 (hL : Lies T k (toksP a (levelT name) ++ (4, name) :: toksP b (levelT name + 1) ++ K)) (hK : After K (6 - (j : Int))) :
 ∃ y, sameE (.mk 3 at_ 0 0 name [] [a, b]) y = true ∧ Ends T (primP T E d) j k y (k + (toksP a (levelT name) ++ (4, name) :: toksP b (levelT name + 1)).length) := by
 obtain ⟨i, hi1, hi5, hi⟩ := lev_bounds hl
 obtain ⟨i, rfl⟩ : ∃ m, i = m + 1 := ⟨i - 1, by omega⟩
 rw [hi] at hlv hL ⊢
 rw [List.append_assoc, List.cons_append] at hL
 have e6 : 6 - ((i + 1 : Nat) : Int) + 1 = 6 - (i : Int) := by omega
 rw [e6] at hL ⊢
 obtain ⟨ya, sa, f, hf, ea⟩ := ha (i + 1) k _ hi5 hL ⟨by show levelT name ≤ _; omega, fun a L e => by
  cases e
  have : name ∈ signsL := level_sign hl
  have hn : ∀ t ∈ signsL, 0 < levelT t → (((4 : Int) == 3 || (4 : Int) == 4) && t == tLeft) = false := by decide +kernel
  exact hn name this hl⟩
 have hL2 := hL.skip
 generalize hka : k + (toksP a (6 - ((i + 1 : Nat) : Int))).length = ka at *
 have hL3 := hL2.cons.2.2.2
 obtain ⟨yb, sb, eb⟩ := hb i (ka + 1) K (by omega) hL3 (hK.mono (by omega))
 have hL4 := hL3.skip
 generalize hkb : ka + 1 + (toksP b (6 - (i : Int))).length = kb at *
 have ebd := eb.done (by omega) hL4 (by have := hK.1; omega)
 have hlt := hL2.cons.1
 obtain ⟨f, rfl⟩ : ∃ g, f = g + 1 := ⟨f - 1, by omega⟩
 have e5 : 5 - (i : Int) = 6 - ((i + 1 : Nat) : Int) := by omega
 rw [e5, opLoop_step hL2 hi, ebd] at ea
 have es : sameE (.mk 3 at_ 0 0 name [] [a, b]) (.mk 3 (tkNext T ka).2.1 0 0 name [] [ya, yb]) = true := by
  simp [sameE, sameL, Ex.kind, Ex.num, Ex.ty, Ex.name, Ex.lab, Ex.kids, sa, sb, sameLab, eqF]
 have elen : k + (toksP a (6 - ((i + 1 : Nat) : Int)) ++ (4, name) :: toksP b (6 - (i : Int))).length = kb := by
  rw [List.length_append, List.length_cons]
  omega
 rw [elen]
 refine ⟨_, es, ?_⟩
 have hE : Ends T (primP T E d) (i + 1) k (.mk 3 (tkNext T ka).2.1 0 0 name [] [ya, yb]) kb := ⟨f, by omega, by rw [ea, e5]; rfl⟩
 by_cases hij : j = i + 1
 · subst hij; exact hE
 · exact climb (hE.done hi5 hL4 (by have := hK.1; omega)) hL4 j (by omega) hj hK.1
theorem each_same : ∀ {l : List Ex} {m : List Ex}, Each2 (fun x y => sameE x y = true) l m → sameL l m = true
 | _, _, .nil => by simp [sameL]
 | _, _, .cons h1 h2 => by simp [sameL, h1, each_same h2]
theorem toksLP_get0 (l : List Ex) : toksLP l 0 0 = l.map fun x => toksP x 0 := by
 have := (toksLP_map (fun x t => (textP x t, toksP x t)) (fun _ _ => rfl) l 0).2
 rw [← this, List.map_map]
 rfl
theorem args_reads {d : Nat} {a : List Ex} {n : Nat} (hg : ∀ y ∈ a, Good T E d y) (hf : ∀ y ∈ a, Fm n y) (h4 : a.length ≤ 4) {k : Nat} {K : List Tk} (hL : Lies T k ((4, tLeft) :: (sepTk (4, tComma) (toksLP a 0 0) ++ (4, tRight) :: K))) :
 ∃ l, sameL a l = true ∧ argsP T E (primP T E d) k = .ok l (k + 1 + (sepTk (4, tComma) (toksLP a 0 0)).length + 1) := by
 unfold argsP
 rw [hL.must (.inr rfl)]
 have hL2 := hL.cons.2.2.2
 show ∃ l, _ ∧ (if tkIs T (k + 1) tRight = true then _ else _) = _
 cases a with
 | nil =>
   have hL3 : Lies T (k + 1) ((4, tRight) :: K) := hL2
   rw [hL3.is tRight, if_pos (by decide)]
   exact ⟨[], by simp [sameL], rfl⟩
 | cons y a =>
   obtain ⟨b, L, e1, e2⟩ := toksP_head n y (hf y (by simp)) 0
   have hh : Lies T (k + 1) (b :: (L ++ (((a.map fun x => toksP x 0).map ((4, tComma) :: ·)).flatten ++ (4, tRight) :: K))) := by
    rw [toksLP_get0, List.map_cons, sepTk, e1] at hL2
    simpa using hL2
   rw [hh.is tRight, e2, if_neg (by decide)]
   have e3 : ((y, toksP y 0) :: a.map fun x => (x, toksP x 0)).map (·.2) = toksLP (y :: a) 0 0 := by
    rw [toksLP_get0, List.map_cons, List.map_cons, List.map_map]
    rfl
   have e4 : ((y, toksP y 0) :: a.map fun x => (x, toksP x 0)).map (·.1) = y :: a := by
    rw [List.map_cons, List.map_map, show ((fun p : Ex × List Tk => p.1) ∘ fun x => (x, toksP x 0)) = id from rfl, List.map_id]
   obtain ⟨ys, g1, g2⟩ := listP_reads (E := E) (P := fun x y => sameE x y = true) (one := exprL T (primP T E d) 5) (most := 4) (sign := tComma) (e := (4, tRight)) (by decide) (y, toksP y 0) (a.map fun x => (x, toksP x 0)) (k + 1) K
    (by rw [List.length_map]; rw [List.length_cons] at h4; omega) (by rw [e3]; exact hL2) (by
    intro q hq k a' K' ha hL
    obtain ⟨t, ht, rfl⟩ : ∃ t ∈ y :: a, q = (t, toksP t 0) := by
     rcases List.mem_cons.1 hq with rfl | hq
     · exact ⟨y, by simp, rfl⟩
     · obtain ⟨t, ht, rfl⟩ := List.mem_map.1 hq
       exact ⟨t, by simp [ht], rfl⟩
    have hn : n ≠ 0 := fun h0 => by
     subst h0
     have := (hf t ht).form
     unfold formB at this
     simp at this
    have ht1 : toksP t 0 = toksP t 1 := toksP_zero (hf t ht).form
    have hA : opLev (a' :: K') = 0 ∧ ∀ b L, a' :: K' = b :: L → ((b.1 == 3 || b.1 == 4) && b.2 == tLeft) = false := by
     rcases ha with rfl | rfl
     · exact ⟨(by decide : levelT tComma = 0), fun b L e => by cases e; decide⟩
     · exact ⟨(by decide : levelT tRight = 0), fun b L e => by cases e; decide⟩
    have h5 : (6 : Int) - ((5 : Nat) : Int) = 1 := by omega
    obtain ⟨z, sz, ez⟩ := hg t ht 5 k (a' :: K') (by omega) (by rw [h5, ← ht1]; exact hL) ⟨by rw [hA.1]; omega, hA.2⟩
    rw [h5, ← ht1] at ez
    exact ⟨z, sz, ez.done (by omega) hL.skip (by rw [hA.1]; omega)⟩)
   rw [e3] at g1
   rw [e4] at g2
   rw [g1]
   have hL4 := hL2.skip
   refine ⟨ys, each_same g2, ?_⟩
   show (mustP T E tRight _).bind _ = _
   rw [hL4.must (.inr rfl)]
   rfl
theorem good_all : ∀ (n : Nat) (x : Ex), Fm n x → ∀ d, n ≤ d → Good T E d x := by
 intro n
 induction n with
 | zero =>
   intro x h
   have hf := h.form
   exfalso
   unfold formB at hf
   simp at hf
 | succ n ih =>
   intro x h d hd
   obtain ⟨d, rfl⟩ : ∃ e, d = e + 1 := ⟨d - 1, by omega⟩
   have hk := h.kids
   have hform := h.form
   have hw := form_ways h.form
   have ih1 : ∀ y ∈ x.kids, Good T E d y := fun y hy => ih y (hk y hy) d (by omega)
   have ih2 : ∀ y ∈ x.kids, Good T E (d + 1) y := fun y hy => ih y (hk y hy) (d + 1) (by omega)
   have alone : (∀ (k : Nat) (K : List Tk) (t : Int), Lies T k (toksP x t ++ K) → (∀ a L, K = a :: L → ((a.1 == 3 || a.1 == 4) && a.2 == tLeft) = false) → ∃ y, sameE x y = true ∧ primP T E (d + 1) k = .ok y (k + (toksP x t).length)) → Good T E (d + 1) x := by
    intro hp j k K hj hL hK
    obtain ⟨y, sy, ey⟩ := hp k K _ hL hK.2
    refine ⟨y, sy, ?_⟩
    cases j with
    | zero => exact ey
    | succ j => exact climb (prim := primP T E (d + 1)) (j0 := 0) (T := T) ey hL.skip (j + 1) (by omega) hj hK.1
   clear ih
   obtain ⟨kind, at_, num, ty, name, l, a⟩ := x
   simp only [Ex.kind, Ex.kids, Ex.name, Ex.lab, Ex.num, Ex.ty] at hw ih1 ih2 hk
   rcases hw with ⟨rfl, h1, rfl, h2, h3⟩ | ⟨rfl, h1, h2, h3, rfl, rfl⟩ | ⟨rfl, h1, h2, rfl, rfl⟩ | ⟨rfl, h1, h2, h3, rfl, rfl⟩ | ⟨rfl, h1, rfl, h3, rfl, rfl⟩
   · obtain rfl := lab_nil h2
     obtain rfl := List.length_eq_zero_iff.1 h1
     refine alone fun k K t hL _ => ?_
     rw [toksP, if_pos rfl] at hL ⊢
     rcases h3 with ⟨rfl, h3, h4⟩ | ⟨rfl, h3⟩
     · rw [if_neg (by decide)] at hL ⊢
       refine ⟨.mk 1 (tkNext T k).2.1 num 1 ⟨#[]⟩ [] [], by simp [sameE, sameL, Ex.kind, Ex.num, Ex.ty, Ex.name, Ex.lab, Ex.kids, sameLab, eqF], ?_⟩
       rw [prim_eq hL, if_pos rfl, numT_itoa h3]
       rfl
     · rw [if_pos rfl] at hL ⊢
       rcases h3 with rfl | rfl
       · rw [if_neg (by decide)] at hL ⊢
         refine ⟨.mk 1 (tkNext T k).2.1 0 2 ⟨#[]⟩ [] [], by simp [sameE, sameL, Ex.kind, Ex.num, Ex.ty, Ex.name, Ex.lab, Ex.kids, sameLab, eqF], ?_⟩
         rw [prim_eq hL, if_neg (by decide), if_neg (by decide), if_pos (by decide)]
         rfl
       · rw [if_pos rfl] at hL ⊢
         refine ⟨.mk 1 (tkNext T k).2.1 1 2 ⟨#[]⟩ [] [], by simp [sameE, sameL, Ex.kind, Ex.num, Ex.ty, Ex.name, Ex.lab, Ex.kids, sameLab, eqF], ?_⟩
         rw [prim_eq hL, if_neg (by decide), if_pos (by decide)]
         rfl
   · obtain rfl := lab_nil h3
     obtain rfl := List.length_eq_zero_iff.1 h2
     refine alone fun k K t hL hK => ?_
     have et : toksP (.mk 2 at_ 0 0 name [] []) t = [(1, name)] := by rw [toksP, if_neg (by decide), if_pos rfl]
     rw [et] at hL ⊢
     have hL1 : Lies T k ((1, name) :: K) := hL
     refine ⟨.mk 2 (tkNext T k).2.1 0 0 name [] [], by simp [sameE, sameL, Ex.kind, Ex.num, Ex.ty, Ex.name, Ex.lab, Ex.kids, sameLab, eqF], ?_⟩
     rw [prim_eq hL1, if_neg (by decide), if_neg (by simp), if_neg (by simp), if_pos rfl]
     have hno : tkIs T (k + 1) tLeft = false := by
      have hL2 := hL1.cons.2.2.2
      cases K with
      | nil =>
        unfold tkIs
        rw [hL2.nil.1]
        decide
      | cons a K => rw [hL2.is tLeft]; exact hK a K rfl
     rw [hno, if_neg (by decide)]
     rfl
   · obtain rfl := lab_nil h2
     rcases h1 with ⟨h1, h5⟩ | ⟨h1, h5⟩
     · obtain ⟨y, rfl⟩ : ∃ y, a = [y] := by
        cases a with
        | nil => simp at h1
        | cons y b => cases b with
          | nil => exact ⟨y, rfl⟩
          | cons z b => simp at h1
       refine alone fun k K t hL hK => ?_
       have et : toksP (.mk 3 at_ 0 0 name [] [y]) t = (4, name) :: toksP y 6 := by
        rw [toksP, if_neg (by decide), if_neg (by decide), if_neg (by decide), if_neg (by decide), if_pos (by rfl)]
        simp [toksLP]
       rw [et] at hL ⊢
       have hL1 : Lies T k ((4, name) :: (toksP y 6 ++ K)) := hL
       have h6 : (6 : Int) - ((0 : Nat) : Int) = 6 := by omega
       have hlev : opLev K ≤ 6 := by
        cases K with
        | nil => show (0 : Int) ≤ 6; decide
        | cons b K =>
          obtain ⟨c, s⟩ := b
          show (if c = 4 then levelT s else 0) ≤ 6
          have := levelK_range s
          split <;> omega
       obtain ⟨z, sz, ez⟩ := ih1 y (by simp) 0 (k + 1) K (by omega) (by rw [h6]; exact hL1.cons.2.2.2) ⟨by rw [h6]; exact hlev, hK⟩
       rw [h6] at ez
       have ez' : primP T E d (k + 1) = .ok z (k + 1 + (toksP y 6).length) := ez
       refine ⟨.mk 3 (tkNext T k).2.1 0 0 name [] [z], by simp [sameE, sameL, Ex.kind, Ex.num, Ex.ty, Ex.name, Ex.lab, Ex.kids, sameLab, eqF, sz], ?_⟩
       have hfin : (Rs.ok z (k + 1 + (toksP y 6).length)).bind (fun x k2 => Rs.ok (Ex.mk 3 (tkNext T k).2.1 0 0 name [] [x]) k2) = .ok (.mk 3 (tkNext T k).2.1 0 0 name [] [z]) (k + ((4, name) :: toksP y 6).length) := by
        show Rs.ok _ _ = _
        congr 1
        rw [List.length_cons]
        omega
       rw [prim_eq hL1, ez']
       rcases h5 with rfl | rfl
       · rw [if_neg (by decide), if_neg (by decide), if_neg (by decide), if_neg (by decide), if_pos (by decide)]; exact hfin
       · rw [if_neg (by decide), if_neg (by decide), if_neg (by decide), if_neg (by decide), if_pos (by decide)]; exact hfin
     · obtain ⟨y, z, rfl⟩ : ∃ y z, a = [y, z] := by
        cases a with
        | nil => simp at h1
        | cons y b => cases b with
          | nil => simp at h1
          | cons z c => cases c with
            | nil => exact ⟨y, z, rfl⟩
            | cons u c => simp at h1
       have et : ∀ t, toksP (.mk 3 at_ 0 0 name [] [y, z]) t = quoteK (decide (levelT name < t)) (toksP y (levelT name) ++ (4, name) :: toksP z (levelT name + 1)) := fun t => by
        rw [toksP, if_neg (by decide), if_neg (by decide), if_neg (by decide), if_neg (by decide), if_neg (by simp)]
        simp [toksLP]
       intro j k K hj hL hK
       rw [et] at hL ⊢
       by_cases hq : levelT name < 6 - (j : Int)
       · rw [decide_eq_true hq] at hL ⊢
         have hp : ∃ y', sameE (.mk 3 at_ 0 0 name [] [y, z]) y' = true ∧ primP T E (d + 1) k = .ok y' (k + (quoteK true (toksP y (levelT name) ++ (4, name) :: toksP z (levelT name + 1))).length) := by
          have hL1 : Lies T k ((4, tLeft) :: (toksP y (levelT name) ++ (4, name) :: toksP z (levelT name + 1) ++ (4, tRight) :: K)) := by
           rw [quoteK, if_pos rfl, List.cons_append, List.append_assoc] at hL
           exact hL
          have hA : After ((4, tRight) :: K) (6 - ((5 : Nat) : Int)) := ⟨by show levelT tRight ≤ _; decide, fun a L e => by cases e; decide⟩
          obtain ⟨y', sy, ey⟩ := bare_reads (at_ := at_) (E := E) h5 (ih1 y (by simp)) (ih1 z (by simp)) (j := 5) (by omega) (by omega) hL1.cons.2.2.2 hA
          have hL2 := hL1.cons.2.2.2.skip
          have ed := ey.done (by omega) hL2 (by show levelT tRight < _; decide)
          refine ⟨y', sy, ?_⟩
          rw [prim_eq hL1, if_neg (by decide), if_neg (by decide), if_neg (by decide), if_neg (by decide), if_neg (by decide), if_pos (by decide), ed]
          show (mustP T E tRight _).bind _ = _
          rw [hL2.must (.inr rfl)]
          show Rs.ok _ _ = _
          congr 1
          rw [quoteK, if_pos rfl]
          simp only [List.length_cons, List.length_append, List.length_nil]
          omega
         obtain ⟨y', sy, ey⟩ := hp
         refine ⟨y', sy, ?_⟩
         cases j with
         | zero => exact ey
         | succ j => exact climb (prim := primP T E (d + 1)) (j0 := 0) (T := T) ey hL.skip (j + 1) (by omega) hj hK.1
       · rw [decide_eq_false hq] at hL ⊢
         exact bare_reads h5 (ih2 y (by simp)) (ih2 z (by simp)) hj (by omega) hL hK
   · obtain rfl := lab_nil h3
     refine alone fun k K t hL hK => ?_
     have et : toksP (.mk 4 at_ 0 0 name [] a) t = (1, name) :: (4, tLeft) :: (sepTk (4, tComma) (toksLP a 0 0) ++ [(4, tRight)]) := by
      rw [toksP, if_neg (by decide), if_neg (by decide), if_pos rfl]
     rw [et] at hL ⊢
     have hL1 : Lies T k ((1, name) :: (4, tLeft) :: (sepTk (4, tComma) (toksLP a 0 0) ++ (4, tRight) :: K)) := by
      simpa using hL
     have hL2 := hL1.cons.2.2.2
     obtain ⟨ys, sy, ey⟩ := args_reads (E := E) ih1 (n := n) hk h2 hL2
     refine ⟨.mk 4 (tkNext T k).2.1 0 0 name [] ys, by simp [sameE, sameL, Ex.kind, Ex.num, Ex.ty, Ex.name, Ex.lab, Ex.kids, sameLab, eqF, sy], ?_⟩
     rw [prim_eq hL1, if_neg (by decide), if_neg (by simp), if_neg (by simp), if_pos rfl, hL2.is tLeft, if_pos (by decide), ey]
     show Rs.ok _ _ = _
     congr 1
     simp only [List.length_cons, List.length_append, List.length_nil]
     omega
   · obtain ⟨y, rfl⟩ : ∃ y, a = [y] := by
      cases a with
      | nil => simp at h1
      | cons y b => cases b with
        | nil => exact ⟨y, rfl⟩
        | cons z b => simp at h1
     refine alone fun k K t hL hK => ?_
     have et : toksP (.mk 5 at_ 0 0 ⟨#[]⟩ l [y]) t = (3, tRelease) :: (4, tLeft) :: (toksP y 1 ++ (3, tTo) :: (labK l ++ [(4, tRight)])) := by
      rw [toksP, if_neg (by decide), if_neg (by decide), if_neg (by decide), if_pos rfl, ← toksP_zero (hk y (by simp)).form]
      simp [toksLP]
     rw [et] at hL ⊢
     have hL1 : Lies T k ((3, tRelease) :: (4, tLeft) :: (toksP y 1 ++ (3, tTo) :: (labK l ++ (4, tRight) :: K))) := by
      simpa using hL
     have hL2 := hL1.cons.2.2.2
     have hL3 := hL2.cons.2.2.2
     have h5 : (6 : Int) - ((5 : Nat) : Int) = 1 := by omega
     obtain ⟨z, sz, ez⟩ := ih1 y (by simp) 5 (k + 1 + 1) _ (by omega) (by rw [h5]; exact hL3) ⟨by show (0 : Int) ≤ _; decide, fun a L e => by cases e; decide⟩
     rw [h5] at ez
     have hL4 := hL3.skip
     have ed := ez.done (by omega) hL4 (by show (0 : Int) < _; decide)
     have hL5 := hL4.cons.2.2.2
     have el := label_reads (E := E) h3 hL5
     have hL6 := hL5.skip
     refine ⟨.mk 5 (tkNext T k).2.1 0 0 ⟨#[]⟩ l [z], by simp [sameE, sameL, Ex.kind, Ex.num, Ex.ty, Ex.name, Ex.lab, Ex.kids, sz, lab_refl], ?_⟩
     rw [prim_eq hL1, if_neg (by decide), if_neg (by decide), if_neg (by decide), if_neg (by decide), if_neg (by decide), if_neg (by decide), if_pos (by decide), hL2.must (.inr rfl)]
     show (exprL T (primP T E d) 5 (k + 1 + 1)).bind _ = _
     rw [ed]
     show (mustP T E tTo _).bind _ = _
     rw [hL4.must (.inl rfl)]
     show (labelP T E _).bind _ = _
     rw [el]
     show (mustP T E tRight _).bind _ = _
     rw [hL6.must (.inr rfl)]
     show Rs.ok _ _ = _
     congr 1
     simp only [List.length_cons, List.length_append, List.length_nil]
     omega
end
end
section
open Go.RowKit Go.Maps
theorem tok_one : ∀ {w : World} {x : Tok} {vs : List Value}, tokE w x vs → ∀ u ∈ vs, u.oneCell' = true := by
 intro w x vs h
 obtain ⟨us, us', e1, e2, us2, us3, e3, e4, e5⟩ := h
 have e2' : us = [.int .i64 x.1] := e2
 have e4' : us2 = [.int .i64 x.2.1] := e4
 have e5' : us3 = [.string x.2.2] := e5
 subst e2' e4' e5' e3 e1
 intro u hu
 simp at hu
 rcases hu with rfl | rfl | rfl <;> rfl
theorem toks_one : ∀ {w : World} {T : List Tok} {vs : List Value}, Rows tokE 3 w T vs → ∀ u ∈ vs, u.oneCell' = true := by
 intro w T
 induction T with
 | nil => intro vs h u hu; simp [Rows] at h; subst h; cases hu
 | cons x T ih =>
   intro vs h u hu
   obtain ⟨a, b, rfl, h1, h2, h3⟩ := h
   rcases List.mem_append.1 hu with hu | hu
   · exact tok_one h1 u hu
   · exact ih h3 u hu
theorem toks_any : ∀ {w w' : World} {T : List Tok} {vs : List Value}, Rows tokE 3 w T vs → Rows tokE 3 w' T vs := by
 intro w w' T
 induction T with
 | nil => intro vs h; exact h
 | cons x T ih =>
   intro vs h
   obtain ⟨a, b, e, h1, h2, h3⟩ := h
   exact ⟨a, b, e, h1, h2, ih h3⟩
theorem cloneTok_calls (T : List Tok) (v : Value) (w : World) (h : Toks w T v) (hn : T.length ≤ 600) :
 Calls Tryz.prog 157 #[v] w fun e w' => ∃ v', e = .returned v' ∧ Toks (hide (fun b => decide (b < w.heap.size)) w') T v' ∧ Below w.heap.size w w' := by
 obtain ⟨t0, hi, hz0, hz1, hz2⟩ := info_parts Tryz.info_token
 obtain ⟨p, c, vs, rfl, hlc, hcm, hr, hp, hx⟩ := SliceOf.rows (by decide) h
 have q25 : ∀ (w : World) (a : Option Addr) (n c n' c' : Nat), (binOp .eql 94 (.slice a n c) (.slice none n' c')).run Tryz.prog w = .ok (.bool a.isNone) w := fun w a n c n' c' => Lib.run_eql_slice_nil w _ _ a n c n' c' Tryz.underlying94
 cases p with
 | none =>
   have h0 := hp rfl
   have hx0 : T = [] := List.eq_nil_of_length_eq_zero h0
   subst hx0
   clear hx hp hr
   go_enter Tryz.func157, Tryz.ntmps157
   go_wp2
   go_ret
   exact ⟨_, rfl, ⟨none, 0, rfl, Nat.le_refl _, by unfold maxLen; decide, .inl rfl⟩, Below.refl _ _⟩
 | some ad =>
   have hx' : ∀ (j : Nat) (u : Value), vs[j]? = some u → w.cell? (ad.add j) = some u := hx ad rfl
   have HX := Hd hx'
   have hvl := hr.length
   have h1 := toks_one hr
   have HR := Hd hr
   have HVL := Hd hvl
   have H1 := Hd h1
   clear hx hx' hp hr hvl h1
   go_enter Tryz.func157, Tryz.ntmps157
   go_wp2_with (at_builtin; refine wpList_append_own _ rfl _ _ 94 rfl w.heap.size 183 t0 (.agg #[.int .i64 0, .int .i64 0, .string ByteArray.empty]) 3 32 Tryz.underlying94 hi hz0 hz1 hz2 rfl (by decide) _ _ _ rfl (World.ownsRow_made w #[] 0 (Nat.le_refl _) (Nat.zero_le _) (by simp)) ad T.length c vs rfl HVL.out ?qc2 H1.out ?qc4 ?qc5 ?qc6 ?_)
   case qc2 =>
    intro j u hj
    exact Lib.cell?_alloc_some _ (HX.out j u hj)
   case qc4 => unfold maxLen; omega
   case qc5 => omega
   case qc6 => simp
   intro v' w1 hown hgrow _
   have hB : Below w.heap.size w w1 := ((Below.refl _ w).alloc (Nat.le_refl _) _).grown hgrow (by simp) (by intro k hk; simp [Value.ownBlock] at hk; omega)
   have hS : Toks (hide (fun b => decide (b < w.heap.size)) w1) T v' := SliceOf.of_rows (own_hide (by simpa using hown) fun g hg => decide_eq_false (by omega)) (toks_any HR.out)
   have HB := Hd hB
   have HS := Hd hS
   clear hown hgrow hB hS
   go_wp2
   go_ret
   exact ⟨_, rfl, HS.out, HB.out⟩
end
section
open Go.RowKit Go.Maps
def PostS (P : Program) (fn : Func) (c₀ : Frame) (cs : List Frame) (R : Ending → FrameMode → World → Prop) (cs' : List Frame) : Exit → Act → World → Prop := fun e a w => bodyPostS P fn c₀ cs R e a cs' w
theorem wpS_post {P : Program} {fn : Func} {c₀ : Frame} {cs cs' : List Frame} {R : Ending → FrameMode → World → Prop} {c : Code} {a : Act} {w : World} (h : c.wp P (PostS P fn c₀ cs R cs') a w) : c.wpS P (bodyPostS P fn c₀ cs R) a cs' w := wpS_of_wp h
theorem catch_idle (n4 n5 : Nat) (W : World) :
 CallsD Tryz.prog 166 #[.pointer (some ⟨n4, 0, none⟩), .pointer (some ⟨n5, 0, none⟩)] .returning W fun e u' w' => e = .returned (.tuple #[]) ∧ u' = .returning ∧ w' = W := by
 refine callsD_of_wpS Tryz.func166 rfl fun c₀ cs hu => ?_
 apply wpS_seq
 apply wpS_region
 simp [wpOpsS, go_sem, recoverD, hu, Tryz.ntmps166, Exit.thenS]
 simp only [Array.replicate_succ, Array.replicate_zero, List.push_toArray, List.append_toArray, List.nil_append, List.cons_append, List.setIfInBounds_toArray, List.set_cons_zero, List.set_cons_succ]
 refine wpS_post ?_
 go_wp2_with (fail)
 refine ⟨rfl, .returning, ?_, .tuple #[], results_none rfl _ _ _, rfl, rfl, rfl⟩
 cases c₀
 simp_all
theorem catch_stop (n4 n5 : Nat) (W : World) (c a c0 a0 : Int) (x0 x1 x2 x3 x4 x5 x6 : Value) (h4 : Blk W n4 [x0, x1, x2, x3, x4, x5, x6] 26) (h5 : Blk W n5 [.int .i64 c0, .int .i64 a0] 35) (hne : n4 ≠ n5) :
 CallsD Tryz.prog 166 #[.pointer (some ⟨n4, 0, none⟩), .pointer (some ⟨n5, 0, none⟩)] (.panicking [{ v := stopV c a, recovered := false }]) W fun e u' w' => e = .returned (.tuple #[]) ∧ u' = .panicking [{ v := stopV c a, recovered := true }] ∧
  (Blk w' n4 zeroC 26 ∧ Blk w' n5 [.int .i64 c, .int .i64 a] 35 ∧ ∀ n w0, n ≤ n4 → n ≤ n5 → n ≤ W.heap.size → Below n w0 W → Below n w0 w') := by
 have hta : ∀ (w : World), (Instr.typeAssert (.iface 190 (.agg #[.int .i64 c, .int .i64 a])) 20 190 true).run Tryz.prog w = .ok (.tuple #[.agg #[.int .i64 c, .int .i64 a], .bool true]) w := fun _ => rfl
 obtain ⟨q0, q1, q2, q3, q4, q5, q6⟩ := h4.cells7
 obtain ⟨f0, f1, f2, f3, f4, f5, f6⟩ := h4.fz7
 have g0 := h5.cell 0
 have g1 := h5.cell 1
 have k0 := h5.fz 0
 have k1 := h5.fz 1
 refine callsD_of_wpS Tryz.func166 rfl fun c₀ cs hu => ?_
 apply wpS_seq
 apply wpS_region
 simp [wpOpsS, go_sem, recoverD, hu, Tryz.ntmps166, Exit.thenS, stopV]
 simp only [Array.replicate_succ, Array.replicate_zero, List.push_toArray, List.append_toArray, List.nil_append, List.cons_append, List.setIfInBounds_toArray, List.set_cons_zero, List.set_cons_succ]
 refine wpS_post ?_
 obtain ⟨W2, eW⟩ : ∃ W2, (W.alloc (.cells #[.int .i64 c, .int .i64 a] 190)).alloc (.cells #[.int .i64 0, .int .i64 0, .int .i64 0, .int .i64 0, .string ⟨#[]⟩, .slice none 0 0, .slice none 0 0] 26) = W2 := ⟨_, rfl⟩
 obtain ⟨z2, hb2, m0, m1⟩ := boxes2 eW
 have HN : Hid (n4 < W.heap.size ∧ n5 < W.heap.size ∧ n4 ≠ n5) := ⟨h4.lt, h5.lt, hne⟩
 have HS0 : Hid (∀ V : World, (∀ b, b = W.heap.size ∨ b = W.heap.size + 1 → V.heap[b]? = W2.heap[b]?) → (V.cell? ⟨W.heap.size, 0, none⟩ = some (.int .i64 c) ∧ V.cell? ⟨W.heap.size, 1, none⟩ = some (.int .i64 a) ∧ V.cell? ⟨W.heap.size + 1, 0, none⟩ = some (.int .i64 0) ∧ V.cell? ⟨W.heap.size + 1, 1, none⟩ = some (.int .i64 0) ∧ V.cell? ⟨W.heap.size + 1, 2, none⟩ = some (.int .i64 0) ∧ V.cell? ⟨W.heap.size + 1, 3, none⟩ = some (.int .i64 0) ∧ V.cell? ⟨W.heap.size + 1, 4, none⟩ = some (.string ⟨#[]⟩) ∧ V.cell? ⟨W.heap.size + 1, 5, none⟩ = some (.slice none 0 0) ∧ V.cell? ⟨W.heap.size + 1, 6, none⟩ = some (.slice none 0 0))) := fun V h => by
  have a0 : ∀ o, V.cell? ⟨W.heap.size, o, none⟩ = _ := fun o => (World.cell?_of_block (a := ⟨W.heap.size, o, none⟩) (h _ (.inl rfl))).trans (m0 o)
  have a1 : ∀ o, V.cell? ⟨W.heap.size + 1, o, none⟩ = _ := fun o => (World.cell?_of_block (a := ⟨W.heap.size + 1, o, none⟩) (h _ (.inr rfl))).trans (m1 o)
  exact ⟨a0 0, a0 1, a1 0, a1 1, a1 2, a1 3, a1 4, a1 5, a1 6⟩
 have HB4 := Hd ((h4.below hb2).below (below_drew1 W2))
 have HB5 := Hd ((h5.below hb2).below (below_drew1 W2))
 have HC4 := Hd (h4.below hb2)
 have HC5 := Hd (h5.below hb2)
 have hn1 : ¬ n4 = n5 := hne
 have hn2 : ¬ n5 = n4 := fun e => hne e.symm
 have HBQ := Hd hb2
 have HBW := Hd (hb2.trans ((below_drew1 W2).mono hb2.size))
 have HV : Hid (∀ (V : World), V = sev W2 n4 (.int .i64 0) (.int .i64 0) (.int .i64 0) (.int .i64 0) (.string ⟨#[]⟩) (.slice none 0 0) (.slice none 0 0) → Blk V n4 zeroC 26 ∧ Blk V n5 [.int .i64 c0, .int .i64 a0] 35 ∧ (∀ b, b = W.heap.size ∨ b = W.heap.size + 1 → V.heap[b]? = W2.heap[b]?) ∧ ∀ n w0, n ≤ n4 → n ≤ W.heap.size → Below n w0 W → Below n w0 V) := fun V e => by
  subst e
  refine ⟨Blk.sev HC4.out, (sev_block HN.out.2.2).trans HC5.out, fun b hb => sev_block (by have h1 := HN.out; omega), fun n w0 h1 h2 h3 => ?_⟩
  have h4 := h3.trans (HBQ.out.mono h2)
  unfold sev
  exact (((((((h4.setCell h1 _).setCell h1 _).setCell h1 _).setCell h1 _).setCell h1 _).setCell h1 _).setCell h1 _)
 have HV5 : Hid (∀ (V V' : World), V = sev W2 n4 (.int .i64 0) (.int .i64 0) (.int .i64 0) (.int .i64 0) (.string ⟨#[]⟩) (.slice none 0 0) (.slice none 0 0) → ∀ u v, V' = (V.setCell ⟨n5, 0, none⟩ u).setCell ⟨n5, 1, none⟩ v → Blk V' n4 zeroC 26 ∧ Blk V' n5 [u, v] 35 ∧ (∀ b, b = W.heap.size ∨ b = W.heap.size + 1 → V'.heap[b]? = W2.heap[b]?) ∧ ∀ n w0, n ≤ n4 → n ≤ n5 → n ≤ W.heap.size → Below n w0 W → Below n w0 V') := fun V V' e u v e' => by
  obtain ⟨h1, h2, h3, h4⟩ := HV.out V e
  subst e'
  have hq : ∀ (X : World) (o : Nat) (x : Value) (b : Nat), b ≠ n5 → (X.setCell ⟨n5, o, none⟩ x).heap[b]? = X.heap[b]? := fun X o x b hb => Below.heap_setCell _ _ _ _ (by simpa using hb)
  refine ⟨(h1.other HN.out.2.2 _ _).other HN.out.2.2 _ _, ?_, fun b hb => ?_, fun n w0 k1 k2 k3 k4 => ((h4 n w0 k1 k3 k4).setCell k2 _).setCell k2 _⟩
  · have := (h2.set 0 u).set 1 v
    simpa using this
  · rw [hq _ _ _ _ (by have := HN.out; omega), hq _ _ _ _ (by have := HN.out; omega)]
    exact h3 b hb
 have HK1 := Hd (HS0.out W2.drew (fun b _ => rfl))
 obtain ⟨V0, eV0⟩ : ∃ V0, sev W2 n4 (.int .i64 0) (.int .i64 0) (.int .i64 0) (.int .i64 0) (.string ⟨#[]⟩) (.slice none 0 0) (.slice none 0 0) = V0 := ⟨_, rfl⟩
 obtain ⟨V1, eV1⟩ : ∃ V1, (V0.setCell ⟨n5, 0, none⟩ (.int .i64 c)).setCell ⟨n5, 1, none⟩ (.int .i64 a) = V1 := ⟨_, rfl⟩
 have hv1 := HV5.out V0 V1 eV0.symm _ _ eV1.symm
 have HV1 : Hid (Blk V1.drew n4 zeroC 26 ∧ Blk V1.drew n5 [.int .i64 c, .int .i64 a] 35 ∧ ∀ n w0, n ≤ n4 → n ≤ n5 → n ≤ W.heap.size → Below n w0 W → Below n w0 V1.drew) := ⟨hv1.1, hv1.2.1, fun n w0 k1 k2 k3 k4 => (hv1.2.2.2 n w0 k1 k2 k3 k4).drew⟩
 have HK2 := HS0.out V0.drew (fun b hb => (HV.out V0 eV0.symm).2.2.1 b hb)
 have HK3 := HS0.out V1.drew (fun b hb => hv1.2.2.1 b hb)
 have EV1 := Hd eV1
 have EV0 := Hd eV0
 clear hv1
 rw [← eV1, ← eV0] at HK3
 rw [← eV0] at HK2
 clear eV1 eV0
 unfold sev at HK2 HK3
 replace HK2 := Hd HK2
 replace HK3 := Hd HK3
 clear q0 q1 q2 q3 q4 q5 q6 f0 f1 f2 f3 f4 f5 f6 g0 g1 k0 k1 h4 h5 hb2 m0 m1 z2 hne
 obtain ⟨q0, q1, q2, q3, q4, q5, q6⟩ := HC4.out.cells7
 obtain ⟨f0, f1, f2, f3, f4, f5, f6⟩ := HC4.out.fz7
 have g0 := HC5.out.cell 0
 have g1 := HC5.out.cell 1
 simp only [List.getElem?_cons_zero, List.getElem?_cons_succ] at g0 g1
 have k0 := HC5.out.fz 0
 have k1 := HC5.out.fz 1
 go_wp2_with (fail)
 refine wp_region_noPanic ?_
 refine wp_region_held_drew (S := fun w' => w'.cell? ⟨W.heap.size, 0, none⟩ = some (.int .i64 c) ∧ w'.cell? ⟨W.heap.size, 1, none⟩ = some (.int .i64 a) ∧ w'.cell? ⟨W.heap.size + 1, 0, none⟩ = some (.int .i64 0) ∧ w'.cell? ⟨W.heap.size + 1, 1, none⟩ = some (.int .i64 0) ∧ w'.cell? ⟨W.heap.size + 1, 2, none⟩ = some (.int .i64 0) ∧ w'.cell? ⟨W.heap.size + 1, 3, none⟩ = some (.int .i64 0) ∧ w'.cell? ⟨W.heap.size + 1, 4, none⟩ = some (.string ⟨#[]⟩) ∧ w'.cell? ⟨W.heap.size + 1, 5, none⟩ = some (.slice none 0 0) ∧ w'.cell? ⟨W.heap.size + 1, 6, none⟩ = some (.slice none 0 0)) (by kernel_rfl) ?_ (fun hHeld => ?_)
 · with_reducible exact HK1.out
 refine wpAnyH_take (i := 0) (v := ?v0x1) rfl (by kernel_rfl) (by kernel_rfl) (by kernel_rfl) (fun _ _ _ h => h) (Or.inl ⟨by rfl, ?h0x1⟩) (by assumption) ?r0x1
 case h0x1 => (intro w hSw; (try dsimp only at hSw); first | (go_simp; done) | (go_simp; with_reducible rfl))
 try simp only [Act.put, List.setIfInBounds_toArray, List.set_cons_zero, List.set_cons_succ]
 refine wpAnyH_take (i := 1) (v := ?v1x2) rfl (by kernel_rfl) (by kernel_rfl) (by kernel_rfl) (fun _ _ _ h => h) (Or.inl ⟨by rfl, ?h1x2⟩) (by assumption) ?r1x2
 case h1x2 => (intro w hSw; (try dsimp only at hSw); first | (go_simp; done) | (go_simp; with_reducible rfl))
 try simp only [Act.put, List.setIfInBounds_toArray, List.set_cons_zero, List.set_cons_succ]
 refine wpAnyH_take (i := 2) (v := ?v2x3) rfl (by kernel_rfl) (by kernel_rfl) (by kernel_rfl) (fun _ _ _ h => h) (Or.inl ⟨by rfl, ?h2x3⟩) (by assumption) ?r2x3
 case h2x3 => (intro w hSw; (try dsimp only at hSw); first | (go_simp; done) | (go_simp; with_reducible rfl))
 try simp only [Act.put, List.setIfInBounds_toArray, List.set_cons_zero, List.set_cons_succ]
 refine wpAnyH_ready (rs := [3]) (by kernel_rfl) (by simp) ?_
 refine AllReadyH.cons rfl (fun K hK => ?_) AllReadyH.nil
 go_simp
 refine hK.out _ _ ?_ (fun hHeld => ?_)
 · with_reducible exact HK2.out
 clear hK K
 try simp only [Act.put, List.setIfInBounds_toArray, List.set_cons_zero, List.set_cons_succ]
 refine wpAnyH_ready (rs := [4]) (by kernel_rfl) (by simp) ?_
 refine AllReadyH.cons rfl (fun K hK => ?_) AllReadyH.nil
 go_simp
 refine hK.out _ _ ?_ (fun hHeld => ?_)
 · with_reducible exact HK3.out
 clear hK K
 try simp only [Act.put, List.setIfInBounds_toArray, List.set_cons_zero, List.set_cons_succ]
 refine wpAnyH_done (by kernel_rfl) ?_ _
 refine NoPanic.normal ?_
 go_wp2_with (fail)
 refine ⟨rfl, .panicking [{ v := stopV c a, recovered := true }], ?_, .tuple #[], results_none rfl _ _ _, rfl, rfl, ?_⟩
 · rw [List.cons.injEq]
   refine ⟨?_, rfl⟩
   cases c₀
   simp_all [stopV]
 · have h1 := HV1.out
   rw [← EV1.out, ← EV0.out] at h1
   unfold sev at h1
   with_reducible exact h1
end
section
open Go.RowKit Go.Maps
def readX (s : Txt) : Ex × Int × Int :=
 if (scanOf s).2.1 = 0 then (match exprL (scanOf s).1 (primP (scanOf s).1 s.size 12) 5 0 with
  | .ok x k => if k < (scanOf s).1.length then (Ex.zero, 1, tkAt (scanOf s).1 s.size k) else (x, 0, 0)
  | .bad c a => (Ex.zero, c, a))
 else (Ex.zero, (scanOf s).2.1, (scanOf s).2.2)
theorem exprF_calls {w : World} {B : Nat} {T : List Tok} {E : Int} {tv : Value} {k dp ns : Nat} {p : Nat → Rs Ex} (hp : ReadsEx B T E tv dp ns 69 #[.pointer (some ⟨B, 0, none⟩), .int .i64 1] p) (h : Rdr w B T E tv k dp ns) :
 Calls Tryz.prog 68 #[.pointer (some ⟨B, 0, none⟩)] w (Does w B T E tv dp ns ExIs (p k)) := by
 obtain ⟨W1, eW⟩ : ∃ W1, w.alloc (.cells #[.int .i64 0, .int .i64 0, .int .i64 0, .int .i64 0, .string ⟨#[]⟩, .slice none 0 0, .slice none 0 0] 26) = W1 := ⟨_, rfl⟩
 have hB1 : Blk W1 w.heap.size zeroC 26 := by rw [← eW]; exact Blk.new _ _ _
 have hb1 : Below w.heap.size w W1 := by rw [← eW]; exact (Below.refl _ _).alloc (Nat.le_refl _) _
 have HN : Hid (w.heap.size < W1.heap.size) := hB1.lt
 have HNE : Hid (w.heap.size ≠ B) := by have := h.lt; unfold Hid; omega
 have HB1 := Hd hB1
 have HA1 := Hd (aside_below (B := B) hb1)
 have h1 := hp W1 k (h.below hb1)
 have H0 := Hd h
 clear hB1 hb1 h hp
 cases hr : p k with
 | bad c a =>
   rw [hr] at h1
   have H1 := Hd h1
   clear h1 hr
   go_enter Tryz.func68, Tryz.ntmps68
   go_wp2_with (fail)
   refine H1.out.mono ?_
   rintro e w2 ⟨ha, rfl, hlf⟩
   have HA := Hd (HA1.out.trans ha)
   have HLF := Hd hlf
   clear hlf ha
   go_wp2_with (fail)
   exact ⟨rfl, HA.out, rfl, HLF.out⟩
 | ok x k1 =>
   rw [hr] at h1
   have H1 := Hd h1
   clear h1 hr
   go_enter Tryz.func68, Tryz.ntmps68
   go_wp2_with (fail)
   refine H1.out.mono ?_
   rintro e w2 ⟨ha, v2, rfl, hr2, hx2⟩
   have HA2 := Hd (HA1.out.trans ha)
   have hB2 := HB1.out.aside ha HNE.out
   have HB2 := Hd hB2
   have HR2 := Hd hr2
   have HX2 := Hd hx2
   obtain ⟨vl, va, rfl, hvl, hva⟩ := hx2
   obtain ⟨pl, cl, rfl, _⟩ := hvl
   obtain ⟨pa, ca, rfl, _⟩ := hva
   obtain ⟨c0, c1, c2, c3, c4, c5, c6⟩ := Blk.cells7 hB2
   obtain ⟨f0, f1, f2, f3, f4, f5, f6⟩ := Blk.fz7 hB2
   clear ha hB2 hr2 H1 eW
   go_wp2_with (fail)
   refine bodyPost_ret (v := .agg #[.int .i64 x.kind, .int .i64 x.at_, .int .i64 x.num, .int .i64 x.ty, .string x.name, .slice pl x.lab.length cl, .slice pa x.kids.length ca]) ?_ rfl ?_
   · obtain ⟨q0, q1, q2, q3, q4, q5, q6⟩ := (Blk.sev (a := .int .i64 x.kind) (b := .int .i64 x.at_) (c := .int .i64 x.num) (d := .int .i64 x.ty) (e := .string x.name) (f := .slice pl x.lab.length cl) (g := .slice pa x.kids.length ca) HB2.out).cells7
     unfold sev at q0 q1 q2 q3 q4 q5 q6
     simp [results, Tryz.results68, go_sem, q0, q1, q2, q3, q4, q5, q6]
   · have hA9 := aside_sev (a := .int .i64 x.kind) (b := .int .i64 x.at_) (c := .int .i64 x.num) (d := .int .i64 x.ty) (e := .string x.name) (f := .slice pl x.lab.length cl) (g := .slice pa x.kids.length ca) HA2.out (Nat.le_refl _)
     exact ⟨hA9, _, rfl, H0.out.via hA9 (sev_block HNE.out) HR2.out, HX2.out.stays ((since_sev HN.out).trans (since_mono _ (Nat.le_of_lt HN.out)))⟩
def Reads (w : World) (r : Ex × Int × Int) (e : Ending) (w' : World) : Prop := ∃ v, e = .returned (.tuple #[v, .agg #[.int .i64 r.2.1, .int .i64 r.2.2]]) ∧ ExIs (since w.heap.size w') r.1 v ∧ Below w.heap.size w w'
theorem exIs_zero (W : World) : ExIs W Ex.zero (.agg #[.int .i64 0, .int .i64 0, .int .i64 0, .int .i64 0, .string ⟨#[]⟩, .slice none 0 0, .slice none 0 0]) := exIs_leaf W 0 0 0 0 _
theorem reads_bad {w W : World} {tmps : Array Value} {c a c0 a0 : Int} {x0 x1 x2 x3 x4 x5 x6 : Value} (ht4 : tmps[4]? = some (.pointer (some ⟨w.heap.size, 0, none⟩))) (ht5 : tmps[5]? = some (.pointer (some ⟨w.heap.size + 1, 0, none⟩)))
 (hb : Below w.heap.size w W) (h4 : Blk W w.heap.size [x0, x1, x2, x3, x4, x5, x6] 26) (h5 : Blk W (w.heap.size + 1) [.int .i64 c0, .int .i64 a0] 35) :
 Leaves Tryz.prog Tryz.f67 tmps (Reads w (Ex.zero, c, a)) [{ target := .fn (.func 166) #[.pointer (some ⟨w.heap.size, 0, none⟩), .pointer (some ⟨w.heap.size + 1, 0, none⟩)], args := #[] }] (.panicking [{ v := stopV c a, recovered := false }]) W := by
 refine leaves_cons (f := 166) (args := #[.pointer (some ⟨w.heap.size, 0, none⟩), .pointer (some ⟨w.heap.size + 1, 0, none⟩)]) (by simp) (by simp [go_sem]) ?_
 refine (catch_stop w.heap.size (w.heap.size + 1) W c a c0 a0 x0 x1 x2 x3 x4 x5 x6 h4 h5 (by omega)).mono ?_
 rintro e u' w'' ⟨rfl, rfl, g4, g5, g6⟩
 obtain ⟨q0, q1, q2, q3, q4, q5, q6⟩ := g4.cells7
 have r0 := g5.cell 0
 have r1 := g5.cell 1
 simp only [List.getElem?_cons_zero, List.getElem?_cons_succ] at r0 r1
 refine ⟨.tuple #[.agg #[.int .i64 0, .int .i64 0, .int .i64 0, .int .i64 0, .string ⟨#[]⟩, .slice none 0 0, .slice none 0 0], .agg #[.int .i64 c, .int .i64 a]], ?_, _, rfl, exIs_zero _, g6 _ _ (Nat.le_refl _) (by omega) hb.size hb⟩
 simp [results, Tryz.results67, go_sem, ht4, ht5, q0, q1, q2, q3, q4, q5, q6, r0, r1]
theorem reads_ok {w W : World} {tmps : Array Value} {c a : Int} {x : Ex} {x0 x1 x2 x3 x4 x5 x6 : Value} (ht4 : tmps[4]? = some (.pointer (some ⟨w.heap.size, 0, none⟩))) (ht5 : tmps[5]? = some (.pointer (some ⟨w.heap.size + 1, 0, none⟩)))
 (hb : Below w.heap.size w W) (h4 : Blk W w.heap.size [x0, x1, x2, x3, x4, x5, x6] 26) (h5 : Blk W (w.heap.size + 1) [.int .i64 c, .int .i64 a] 35) (hx : ExIs (since w.heap.size W) x (.agg #[x0, x1, x2, x3, x4, x5, x6])) :
 Leaves Tryz.prog Tryz.f67 tmps (Reads w (x, c, a)) [{ target := .fn (.func 166) #[.pointer (some ⟨w.heap.size, 0, none⟩), .pointer (some ⟨w.heap.size + 1, 0, none⟩)], args := #[] }] .returning W := by
 refine leaves_cons (f := 166) (args := #[.pointer (some ⟨w.heap.size, 0, none⟩), .pointer (some ⟨w.heap.size + 1, 0, none⟩)]) (by simp) (by simp [go_sem]) ?_
 refine (catch_idle w.heap.size (w.heap.size + 1) W).mono ?_
 rintro e u' w'' ⟨rfl, rfl, rfl⟩
 obtain ⟨q0, q1, q2, q3, q4, q5, q6⟩ := h4.cells7
 have r0 := h5.cell 0
 have r1 := h5.cell 1
 simp only [List.getElem?_cons_zero, List.getElem?_cons_succ] at r0 r1
 refine ⟨.tuple #[.agg #[x0, x1, x2, x3, x4, x5, x6], .agg #[.int .i64 c, .int .i64 a]], ?_, _, rfl, hx, hb⟩
 simp [results, Tryz.results67, go_sem, ht4, ht5, q0, q1, q2, q3, q4, q5, q6, r0, r1]
theorem reads_none {w W : World} {tmps : Array Value} {c a : Int} {x : Ex} {x0 x1 x2 x3 x4 x5 x6 : Value} (ht4 : tmps[4]? = some (.pointer (some ⟨w.heap.size, 0, none⟩))) (ht5 : tmps[5]? = some (.pointer (some ⟨w.heap.size + 1, 0, none⟩)))
 (hb : Below w.heap.size w W) (h4 : Blk W w.heap.size [x0, x1, x2, x3, x4, x5, x6] 26) (h5 : Blk W (w.heap.size + 1) [.int .i64 c, .int .i64 a] 35) (hx : ExIs (since w.heap.size W) x (.agg #[x0, x1, x2, x3, x4, x5, x6])) :
 Leaves Tryz.prog Tryz.f67 tmps (Reads w (x, c, a)) [] .returning W := by
 obtain ⟨q0, q1, q2, q3, q4, q5, q6⟩ := h4.cells7
 have r0 := h5.cell 0
 have r1 := h5.cell 1
 simp only [List.getElem?_cons_zero, List.getElem?_cons_succ] at r0 r1
 refine ⟨.tuple #[.agg #[x0, x1, x2, x3, x4, x5, x6], .agg #[.int .i64 c, .int .i64 a]], ?_, _, rfl, hx, hb⟩
 simp [results, Tryz.results67, go_sem, ht4, ht5, q0, q1, q2, q3, q4, q5, q6, r0, r1]
end
section
open Go.RowKit Go.Maps
theorem since_below {n : Nat} {w w' : World} (hb : Below w.heap.size w w') : Keeps (since n w) (since n w') := keeps_hide hb.size fun b h hp => ⟨hp, hb.block b h⟩
theorem sev_side (w : World) (n : Nat) (a b c d e f g : Value) : Aside1 n w (sev w n a b c d e f g) :=
 ((((((aside_set 0 a).trans (aside_set 1 b)).trans (aside_set 2 c)).trans (aside_set 3 d)).trans (aside_set 4 e)).trans (aside_set 5 f)).trans (aside_set 6 g)
theorem keep8 {n B : Nat} {w5 W8 : World} (hB : w5.heap.size ≤ B) (hs : w5.heap.size ≤ W8.heap.size) (h : ∀ b, n ≤ b → b < w5.heap.size → W8.heap[b]? = w5.heap[b]?) : Keeps (since n w5) (mask B W8) :=
 ⟨by rw [hide_size, mask_size]; exact hs, fun b o v hv => by
   rw [hide_cell] at hv
   split at hv
   · cases hv
   · rename_i hp
     have hb := cell_lt hv
     simp at hp
     rw [mask_cell, if_neg (by omega), World.cell?_of_block (a := ⟨b, o, none⟩) (h b (by omega) hb)]
     exact hv⟩
theorem readX_calls (s : Txt) (w : World) (ht : Tab w) : Calls Tryz.prog 67 #[.string s, .func (.func 68) #[] #[]] w (Reads w (readX s)) := by
 have hmf := mf_run
 have eg : ∀ args w, (callFunc 68 args).run Tryz.prog w = .ok (.enter 68 args) w := enters_at Tryz.func68 (by kernel_rfl) rfl
 obtain ⟨W2, eW⟩ : ∃ W2, (w.alloc (.cells #[.int .i64 0, .int .i64 0, .int .i64 0, .int .i64 0, .string ⟨#[]⟩, .slice none 0 0, .slice none 0 0] 26)).alloc (.cells #[.int .i64 0, .int .i64 0] 35) = W2 := ⟨_, rfl⟩
 obtain ⟨z2, hb2, m0, m1⟩ := boxes2 eW
 have hB2 : Blk W2 w.heap.size zeroC 26 := by rw [← eW]; exact (Blk.new _ _ _).below ((Below.refl _ _).alloc (Nat.le_refl _) _)
 have hC2 : Blk W2 (w.heap.size + 1) [.int .i64 0, .int .i64 0] 35 := by rw [← eW]; exact Blk.new2 _ _ _ _ _
 have HB2 := Hd hb2
 have HSC := Hd (scan_calls s W2)
 have HE2 := Hd hB2
 have HF2 := Hd hC2
 have HTB := Hd ht
 clear hb2 m0 m1 z2 hB2 hC2 ht
 by_cases hc : (scanOf s).2.1 = 0
 · obtain ⟨T, hT⟩ : ∃ T, scanOf s = (T, 0, 0) := by
    refine ⟨(scanOf s).1, ?_⟩
    have h1 : scanOf s = ((scanOf s).1, 0, (scanOf s).2.2) := by rw [← hc]
    have h2 := scanOf_zero h1
    rw [h2] at h1
    exact h1
   obtain ⟨hs4, hT6, hST⟩ := scanOf_stands hT
   have HRX : Hid (readX s = match exprL T (primP T s.size 12) 5 0 with
    | .ok x k => if k < T.length then (Ex.zero, 1, tkAt T s.size k) else (x, 0, 0)
    | .bad c a => (Ex.zero, c, a)) := by unfold Hid readX; rw [if_pos hc, hT]; try rfl
   rw [hT] at HSC
   have HST := Hd hST
   have HT6 := Hd hT6
   have HS4 := Hd hs4
   clear hc hT hs4 hT6 hST
   have HSC2 : Hid (Calls Tryz.prog 59 #[.string s] W2 fun e w' => ∃ y, e = .returned (.tuple #[y, .agg #[.int .i64 0, .int .i64 0]]) ∧ Toks w' T y ∧ Below W2.heap.size W2 w') := HSC.out
   clear HSC
   go_enter_defers Tryz.func67, Tryz.ntmps67
   go_wp2_with (fail)
   clear eW
   refine HSC2.out.mono ?_
   rintro e w3 ⟨y, rfl, hy, hb3⟩
   have HE3 := Hd (HE2.out.below hb3)
   have HF3 := Hd (HF2.out.below hb3)
   have HB3 := Hd (HB2.out.trans (hb3.mono HB2.out.size))
   have HCL := Hd (cloneTok_calls T y w3 hy HT6.out)
   have r0 := HF3.out.cell 0
   have r1 := HF3.out.cell 1
   simp only [List.getElem?_cons_zero, List.getElem?_cons_succ] at r0 r1
   have k0 := HF3.out.fz 0
   have k1 := HF3.out.fz 1
   have s7 := HF3.out.same (i := 0) rfl
   have s8 := HF3.out.same (i := 1) rfl
   obtain ⟨_, _, cy, py, rfl, _⟩ := hy.cells
   clear hb3 hy HSC2
   go_wp2_with (fail)
   refine HCL.out.mono ?_
   rintro e w5 ⟨v5, rfl, ht5, hb5⟩
   obtain ⟨_, _, c5, p5, rfl, _⟩ := ht5.cells
   have HTK := Hd ht5
   have HB35 : Hid (w3.heap.size ≤ w5.heap.size ∧ w.heap.size + 1 < w3.heap.size) := ⟨hb5.size, HF3.out.lt⟩
   replace ht5 := ht5.stays (hide_keeps _ _)
   obtain ⟨W6, eW6⟩ : ∃ W6, w5.alloc (.cells #[.slice p5 T.length c5, .int .i64 0, .int .i64 s.size, .int .i64 0, .int .i64 0] 194) = W6 := ⟨_, rfl⟩
   have hb6 : Below w5.heap.size w5 W6 := by rw [← eW6]; exact (Below.refl _ _).alloc (Nat.le_refl _) _
   have hB6 : Blk W6 w5.heap.size [.slice p5 T.length c5, .int .i64 0, .int .i64 s.size, .int .i64 0, .int .i64 0] 194 := by rw [← eW6]; exact Blk.new _ _ _
   have hb56 := hb5.trans (hb6.mono hb5.size)
   have HRD : Hid (Rdr W6 w5.heap.size T s.size (.slice p5 T.length c5) 0 0 0) := ⟨hB6, ht5.stays (mask_new (Nat.le_refl _) hb6), tab_mask (HTB.out.below (HB3.out.trans (hb5.mono HB3.out.size))) (Nat.le_refl _) hb6⟩
   have HW65 : Hid (w5.heap.size ≤ W6.heap.size) := hb6.size
   have HW6B : Hid (∀ b, b < w5.heap.size → W6.heap[b]? = w5.heap[b]?) := fun b h => hb6.block b h
   have HB6 := Hd (HB3.out.trans (hb56.mono HB3.out.size))
   have HE6 := Hd (HE3.out.below hb56)
   have HF6 := Hd (HF3.out.below hb56)
   have HN5 : Hid (w.heap.size + 1 < w5.heap.size) := by have h1 := HF3.out.lt; have h2 := hb5.size; unfold Hid; omega
   have HXC := Hd (exprF_calls (exprTop_calls level_calls (atoi_calls HST.out)) HRD.out)
   clear hb5 hb6 hb56 hB6 ht5 r0 r1 k0 k1 s7 s8 HCL
   cases hr : exprL T (primP T s.size 12) 5 0 with
   | bad c a =>
     rw [hr] at HXC HRX
     have HRY : Hid (readX s = (Ex.zero, c, a)) := HRX.out
     clear hr HRX
     go_wp2_with (fail)
     refine HXC.out.mono ?_
     rintro e w7 ⟨ha, rfl, hlf⟩
     have HB7 := Hd (below_of_aside HB6.out (Nat.le_of_lt (Nat.lt_trans (Nat.lt_succ_self _) HN5.out)) ha)
     have HE7 := Hd (HE6.out.aside ha (by have h1 := HN5.out; omega))
     have HF7 := Hd (HF6.out.aside ha (by have h1 := HN5.out; omega))
     clear ha hlf eW6
     go_wp2_with (fail)
     rw [HRY.out]
     exact reads_bad rfl rfl HB7.out HE7.out HF7.out
   | ok x k =>
     rw [hr] at HXC HRX
     have HRY : Hid (readX s = if k < T.length then (Ex.zero, 1, tkAt T s.size k) else (x, 0, 0)) := HRX.out
     clear hr HRX
     go_wp2_with (fail)
     refine HXC.out.mono ?_
     rintro e w7 ⟨ha, v7, rfl, hr7, hx7⟩
     have HB7 := Hd (below_of_aside HB6.out (Nat.le_of_lt (Nat.lt_trans (Nat.lt_succ_self _) HN5.out)) ha)
     have hE7 := HE6.out.aside ha (by have h1 := HN5.out; omega)
     have HE7 := Hd hE7
     have HF7 := Hd (HF6.out.aside ha (by have h1 := HN5.out; omega))
     have HX7 := Hd hx7
     have HA7 := Hd ha
     have HR7 := Hd hr7
     obtain ⟨vl, va, rfl, hvl, hva⟩ := hx7
     obtain ⟨pl, cl, rfl, _⟩ := hvl
     obtain ⟨pa, ca, rfl, _⟩ := hva
     obtain ⟨q0, q1, q2, q3, q4, q5, q6⟩ := hE7.cells7
     obtain ⟨f0, f1, f2, f3, f4, f5, f6⟩ := hE7.fz7
     obtain ⟨W8, eW8⟩ : ∃ W8, sev w7 w.heap.size (.int .i64 x.kind) (.int .i64 x.at_) (.int .i64 x.num) (.int .i64 x.ty) (.string x.name) (.slice pl x.lab.length cl) (.slice pa x.kids.length ca) = W8 := ⟨_, rfl⟩
     have hA8 : Aside1 w.heap.size w7 W8 := by rw [← eW8]; exact sev_side _ _ _ _ _ _ _ _ _
     have HB8 : Hid (Blk W8 w.heap.size [.int .i64 x.kind, .int .i64 x.at_, .int .i64 x.num, .int .i64 x.ty, .string x.name, .slice pl x.lab.length cl, .slice pa x.kids.length ca] 26) := by rw [← eW8]; exact Blk.sev hE7
     have hq8 : ∀ b, b ≠ w.heap.size → W8.heap[b]? = w7.heap[b]? := fun b hb => by rw [← eW8]; exact sev_block (fun e => hb e.symm)
     have HC8 : Hid (Blk W8 (w.heap.size + 1) [.int .i64 0, .int .i64 0] 35) := (hq8 _ (by omega)).trans HF7.out
     have HW8 : Hid (Below w.heap.size w W8) := ⟨hA8.os.trans HB7.out.os, hA8.tape.trans HB7.out.tape, hA8.output.trans HB7.out.output, Nat.le_trans HB7.out.size hA8.size, fun i hi => (hq8 i (by omega)).trans (HB7.out.block i hi)⟩
     have HX8 : Hid (ExIs (since w.heap.size W8) x (.agg #[.int .i64 x.kind, .int .i64 x.at_, .int .i64 x.num, .int .i64 x.ty, .string x.name, .slice pl x.lab.length cl, .slice pa x.kids.length ca])) := by
      have h1 := HX7.out.stays (show Keeps (since W6.heap.size w7) (since W6.heap.size W8) from keeps_hide hA8.size fun b hb hp => ⟨hp, hq8 b (by have h1 := HN5.out; have h2 := HRD.out.lt; simp at hp; omega)⟩)
      exact h1.stays (since_mono _ (by have h2 := HN5.out; have h3 := HRD.out.lt; omega))
     have HRD8 : Hid (Rdr W8 w5.heap.size T s.size (.slice p5 T.length c5) k 0 0) := ⟨(hq8 _ (by have h1 := HN5.out; omega)).trans hr7.blk,
      HTK.out.stays (keep8 (Nat.le_refl _) (by have h1 := HW65.out; have h2 := ha.size; have h3 := hA8.size; omega) fun b hb hb2 => (hq8 b (by have h1 := HB35.out; omega)).trans ((ha.block b (by have h1 := HW65.out; omega) (fun e => by simp at e; omega)).trans (HW6B.out b hb2))),
      tab_mask HTB.out (by have h1 := HN5.out; omega) HW8.out⟩
     have c1 := HRD8.out.c1
     have c0 := HRD8.out.c0
     unfold sev at eW8
     clear ha hr7 hE7 hA8 hq8 HXC eW6
     go_wp2_with (fail)
     clear eW8 q0 q1 q2 q3 q4 q5 q6 f0 f1 f2 f3 f4 f5 f6
     by_cases hk : k < T.length
     · have hki : (k : Int) < (T.length : Int) := by omega
       rw [if_pos hk] at HRY
       clear hk
       go_quiet (fail)
       obtain ⟨W9, e9⟩ : ∃ W9, W8.drewN nq = W9 := ⟨_, rfl⟩
       have hb9 : Below W8.heap.size W8 W9 := by rw [← e9]; exact below_drewN (Below.refl _ _) _
       have HFA := Hd (fail_calls (HRD8.out.below hb9) 1)
       have HB9 := Hd hb9
       rw [e9]
       clear e9 hb9 c0 c1
       go_wp2_with (fail)
       refine HFA.out.mono ?_
       rintro e w10 ⟨rfl, hb10⟩
       have hb810 := HB9.out.trans (hb10.mono HB9.out.size)
       have HZ1 := Hd (HW8.out.trans (hb810.mono HW8.out.size))
       have HZ2 := Hd (HB8.out.below hb810)
       have HZ3 := Hd (HC8.out.below hb810)
       clear hb10 hb810
       go_wp2_with (fail)
       rw [HRY.out]
       exact reads_bad rfl rfl HZ1.out HZ2.out HZ3.out
     · have hki : ¬ (k : Int) < (T.length : Int) := by omega
       rw [if_neg hk] at HRY
       clear hk
       go_quiet (fail)
       obtain ⟨W9, e9⟩ : ∃ W9, W8.drewN nq = W9 := ⟨_, rfl⟩
       have hb9 : Below W8.heap.size W8 W9 := by rw [← e9]; exact below_drewN (Below.refl _ _) _
       have HZ1 := Hd (HW8.out.trans (hb9.mono HW8.out.size))
       have HZ2 := Hd (HB8.out.below hb9)
       have HZ3 := Hd (HC8.out.below hb9)
       have HZX := Hd (HX8.out.stays (since_below hb9))
       rw [e9]
       clear e9 hb9 c0 c1
       obtain ⟨q0, q1, q2, q3, q4, q5, q6⟩ := HZ2.out.cells7
       obtain ⟨f0, f1, f2, f3, f4, f5, f6⟩ := HZ2.out.fz7
       have r0 := HZ3.out.cell 0
       have r1 := HZ3.out.cell 1
       simp only [List.getElem?_cons_zero, List.getElem?_cons_succ] at r0 r1
       have k0 := HZ3.out.fz 0
       have k1 := HZ3.out.fz 1
       have s0 := HZ2.out.same (i := 0) rfl
       have s1 := HZ2.out.same (i := 1) rfl
       have s2 := HZ2.out.same (i := 2) rfl
       have s3 := HZ2.out.same (i := 3) rfl
       have s4 := HZ2.out.same (i := 4) rfl
       have s5 := HZ2.out.same (i := 5) rfl
       have s6 := HZ2.out.same (i := 6) rfl
       have s7 := HZ3.out.same (i := 0) rfl
       have s8 := HZ3.out.same (i := 1) rfl
       have HK := Hd (show (W9.drew.cell? ⟨w.heap.size, 0, none⟩ = some (.int .i64 x.kind) ∧ W9.drew.cell? ⟨w.heap.size, 1, none⟩ = some (.int .i64 x.at_) ∧ W9.drew.cell? ⟨w.heap.size, 2, none⟩ = some (.int .i64 x.num) ∧ W9.drew.cell? ⟨w.heap.size, 3, none⟩ = some (.int .i64 x.ty) ∧ W9.drew.cell? ⟨w.heap.size, 4, none⟩ = some (.string x.name) ∧ W9.drew.cell? ⟨w.heap.size, 5, none⟩ = some (.slice pl x.lab.length cl) ∧ W9.drew.cell? ⟨w.heap.size, 6, none⟩ = some (.slice pa x.kids.length ca) ∧ W9.drew.cell? ⟨w.heap.size + 1, 0, none⟩ = some (.int .i64 0) ∧ W9.drew.cell? ⟨w.heap.size + 1, 1, none⟩ = some (.int .i64 0)) from ⟨q0, q1, q2, q3, q4, q5, q6, r0, r1⟩)
       go_wp2_with (fail)
       go_region_held3 (fun w' => w'.cell? ⟨w.heap.size, 0, none⟩ = some (.int .i64 x.kind) ∧ w'.cell? ⟨w.heap.size, 1, none⟩ = some (.int .i64 x.at_) ∧ w'.cell? ⟨w.heap.size, 2, none⟩ = some (.int .i64 x.num) ∧ w'.cell? ⟨w.heap.size, 3, none⟩ = some (.int .i64 x.ty) ∧ w'.cell? ⟨w.heap.size, 4, none⟩ = some (.string x.name) ∧ w'.cell? ⟨w.heap.size, 5, none⟩ = some (.slice pl x.lab.length cl) ∧ w'.cell? ⟨w.heap.size, 6, none⟩ = some (.slice pa x.kids.length ca) ∧ w'.cell? ⟨w.heap.size + 1, 0, none⟩ = some (.int .i64 0) ∧ w'.cell? ⟨w.heap.size + 1, 1, none⟩ = some (.int .i64 0))
        (with_reducible exact HK.out)
        (fail)
       all_goals go_wp2_with (fail)
       all_goals rw [HRY.out]
       all_goals exact reads_ok rfl rfl HZ1.out.drew HZ2.out HZ3.out (HZX.out.stays (since_below (below_drew1 _)))
 · have HRX : Hid (readX s = (Ex.zero, (scanOf s).2.1, (scanOf s).2.2)) := by unfold Hid readX; rw [if_neg hc]
   have hc1 : ((scanOf s).2.1 == 0) = false := beq_false_of_ne hc
   have hc2 : ((scanOf s).2.1 != 0) = true := by simp [hc]
   clear hc
   generalize (scanOf s).2.1 = c at *
   generalize (scanOf s).2.2 = a at *
   go_enter_defers Tryz.func67, Tryz.ntmps67
   go_wp2_with (fail)
   clear eW
   refine HSC.out.mono ?_
   rintro e w3 ⟨y, rfl, hy, hb3⟩
   have hF3 := HF2.out.below hb3
   have r0 := hF3.cell 0
   have r1 := hF3.cell 1
   simp only [List.getElem?_cons_zero, List.getElem?_cons_succ] at r0 r1
   have k0 := hF3.fz 0
   have k1 := hF3.fz 1
   obtain ⟨W4, eW4⟩ : ∃ W4, (w3.setCell ⟨w.heap.size + 1, 0, none⟩ (.int .i64 c)).setCell ⟨w.heap.size + 1, 1, none⟩ (.int .i64 a) = W4 := ⟨_, rfl⟩
   have HB4 : Hid (Blk W4 w.heap.size zeroC 26) := by rw [← eW4]; exact ((HE2.out.below hb3).other (by omega) _ _).other (by omega) _ _
   have HB5 : Hid (Blk W4 (w.heap.size + 1) [.int .i64 c, .int .i64 a] 35) := by rw [← eW4]; exact (hF3.set 0 (.int .i64 c)).set 1 (.int .i64 a)
   have HW4 : Hid (Below w.heap.size w W4) := by rw [← eW4]; exact ((HB2.out.trans (hb3.mono HB2.out.size)).setCell (show w.heap.size ≤ w.heap.size + 1 by omega) _).setCell (show w.heap.size ≤ w.heap.size + 1 by omega) _
   obtain ⟨_, _, cy, py, rfl, _⟩ := hy.cells
   have u0 := HB5.out.cell 0
   simp only [List.getElem?_cons_zero] at u0
   clear hb3 hy hF3
   go_wp2_with (fail)
   clear eW4 r0 r1 k0 k1 u0
   obtain ⟨q0, q1, q2, q3, q4, q5, q6⟩ := HB4.out.cells7
   obtain ⟨f0, f1, f2, f3, f4, f5, f6⟩ := HB4.out.fz7
   have r0 := HB5.out.cell 0
   have r1 := HB5.out.cell 1
   simp only [List.getElem?_cons_zero, List.getElem?_cons_succ] at r0 r1
   have k0 := HB5.out.fz 0
   have k1 := HB5.out.fz 1
   have s0 := HB4.out.same (i := 0) rfl
   have s1 := HB4.out.same (i := 1) rfl
   have s2 := HB4.out.same (i := 2) rfl
   have s3 := HB4.out.same (i := 3) rfl
   have s4 := HB4.out.same (i := 4) rfl
   have s5 := HB4.out.same (i := 5) rfl
   have s6 := HB4.out.same (i := 6) rfl
   have s7 := HB5.out.same (i := 0) rfl
   have s8 := HB5.out.same (i := 1) rfl
   have HK := Hd (show (W4.drew.cell? ⟨w.heap.size, 0, none⟩ = some (.int .i64 0) ∧ W4.drew.cell? ⟨w.heap.size, 1, none⟩ = some (.int .i64 0) ∧ W4.drew.cell? ⟨w.heap.size, 2, none⟩ = some (.int .i64 0) ∧ W4.drew.cell? ⟨w.heap.size, 3, none⟩ = some (.int .i64 0) ∧ W4.drew.cell? ⟨w.heap.size, 4, none⟩ = some (.string ⟨#[]⟩) ∧ W4.drew.cell? ⟨w.heap.size, 5, none⟩ = some (.slice none 0 0) ∧ W4.drew.cell? ⟨w.heap.size, 6, none⟩ = some (.slice none 0 0) ∧ W4.drew.cell? ⟨w.heap.size + 1, 0, none⟩ = some (.int .i64 c) ∧ W4.drew.cell? ⟨w.heap.size + 1, 1, none⟩ = some (.int .i64 a)) from ⟨q0, q1, q2, q3, q4, q5, q6, r0, r1⟩)
   go_wp2_with (fail)
   go_region_held3 (fun w' => w'.cell? ⟨w.heap.size, 0, none⟩ = some (.int .i64 0) ∧ w'.cell? ⟨w.heap.size, 1, none⟩ = some (.int .i64 0) ∧ w'.cell? ⟨w.heap.size, 2, none⟩ = some (.int .i64 0) ∧ w'.cell? ⟨w.heap.size, 3, none⟩ = some (.int .i64 0) ∧ w'.cell? ⟨w.heap.size, 4, none⟩ = some (.string ⟨#[]⟩) ∧ w'.cell? ⟨w.heap.size, 5, none⟩ = some (.slice none 0 0) ∧ w'.cell? ⟨w.heap.size, 6, none⟩ = some (.slice none 0 0) ∧ w'.cell? ⟨w.heap.size + 1, 0, none⟩ = some (.int .i64 c) ∧ w'.cell? ⟨w.heap.size + 1, 1, none⟩ = some (.int .i64 a))
    (with_reducible exact HK.out)
    (fail)
   all_goals go_wp2_with (fail)
   all_goals rw [HRX.out]
   all_goals exact reads_none rfl rfl HW4.out.drew HB4.out HB5.out (exIs_zero _)
end
section
open Go.RowKit Go.Maps
def parseX (s : Txt) : Ex × Int × Int := if (readX s).2.1 = 0 then (if formedS (readX s).1 then readX s else (Ex.zero, 2, 0)) else readX s
theorem pair_done {w V : World} {c a : Int} {x0 x1 x2 x3 x4 x5 x6 : Value} (tmps : Array Value) (ht2 : tmps[2]? = some (.pointer (some ⟨w.heap.size, 0, none⟩))) (ht3 : tmps[3]? = some (.pointer (some ⟨w.heap.size + 1, 0, none⟩)))
 (h4 : Blk V w.heap.size [x0, x1, x2, x3, x4, x5, x6] 26) (h5 : Blk V (w.heap.size + 1) [.int .i64 c, .int .i64 a] 35) :
 (results Tryz.f20 tmps).run Tryz.prog V = .ok (.tuple #[.agg #[x0, x1, x2, x3, x4, x5, x6], .agg #[.int .i64 c, .int .i64 a]]) V := by
 obtain ⟨q0, q1, q2, q3, q4, q5, q6⟩ := h4.cells7
 have r0 := h5.cell 0
 have r1 := h5.cell 1
 simp only [List.getElem?_cons_zero, List.getElem?_cons_succ] at r0 r1
 simp [results, Tryz.results20, go_sem, ht2, ht3, q0, q1, q2, q3, q4, q5, q6, r0, r1]
theorem pair_set {w W : World} {z0 z1 z2 z3 z4 z5 z6 y0 y1 x0 x1 x2 x3 x4 x5 x6 u v : Value} (hb : Below w.heap.size w W) (h4 : Blk W w.heap.size [z0, z1, z2, z3, z4, z5, z6] 26) (h5 : Blk W (w.heap.size + 1) [y0, y1] 35) {V0 V1 : World}
 (e0 : V0 = sev W w.heap.size x0 x1 x2 x3 x4 x5 x6) (e1 : V1 = (V0.setCell ⟨w.heap.size + 1, 0, none⟩ u).setCell ⟨w.heap.size + 1, 1, none⟩ v) :
 Blk V0 (w.heap.size + 1) [y0, y1] 35 ∧ (∀ b, b ≠ w.heap.size → V0.heap[b]? = W.heap[b]?) ∧ V0.heap.size = W.heap.size ∧
 Blk V1 w.heap.size [x0, x1, x2, x3, x4, x5, x6] 26 ∧ Blk V1 (w.heap.size + 1) [u, v] 35 ∧ (∀ b, b ≠ w.heap.size → b ≠ w.heap.size + 1 → V1.heap[b]? = W.heap[b]?) ∧ V1.heap.size = W.heap.size ∧ Below w.heap.size w V1 := by
 have hq : ∀ b, b ≠ w.heap.size → V0.heap[b]? = W.heap[b]? := fun b hb => by rw [e0]; exact sev_block (fun e => hb e.symm)
 have hz : V0.heap.size = W.heap.size := by rw [e0]; exact sev_size
 have g5 : Blk V0 (w.heap.size + 1) [y0, y1] 35 := (hq _ (by omega)).trans h5
 have g4 : Blk V0 w.heap.size [x0, x1, x2, x3, x4, x5, x6] 26 := by rw [e0]; exact Blk.sev h4
 have hr : ∀ (X : World) (o : Nat) (x : Value) (b : Nat), b ≠ w.heap.size + 1 → (X.setCell ⟨w.heap.size + 1, o, none⟩ x).heap[b]? = X.heap[b]? := fun X o x b hb => Below.heap_setCell _ _ _ _ (by simpa using hb)
 have hA := sev_side W w.heap.size x0 x1 x2 x3 x4 x5 x6
 rw [← e0] at hA
 have hB0 : Below w.heap.size w V0 := ⟨hA.os.trans hb.os, hA.tape.trans hb.tape, hA.output.trans hb.output, Nat.le_trans hb.size hA.size, fun i hi => (hq i (by omega)).trans (hb.block i hi)⟩
 refine ⟨g5, hq, hz, ?_, ?_, fun b h1 h2 => ?_, ?_, ?_⟩
 · rw [e1]; exact (g4.other (by omega) _ _).other (by omega) _ _
 · rw [e1]; have := (g5.set 0 u).set 1 v; simpa using this
 · rw [e1, hr _ _ _ _ h2, hr _ _ _ _ h2]; exact hq b h1
 · rw [e1]; simpa [World.setCell] using hz
 · rw [e1]; exact (hB0.setCell (show w.heap.size ≤ w.heap.size + 1 by omega) _).setCell (show w.heap.size ≤ w.heap.size + 1 by omega) _
theorem parseX_calls (s : Txt) (w : World) (ht : Tab w) : Calls Tryz.prog 20 #[.string s] w (Reads w (parseX s)) := by
 obtain ⟨W2, eW⟩ : ∃ W2, (w.alloc (.cells #[.int .i64 0, .int .i64 0, .int .i64 0, .int .i64 0, .string ⟨#[]⟩, .slice none 0 0, .slice none 0 0] 26)).alloc (.cells #[.int .i64 0, .int .i64 0] 35) = W2 := ⟨_, rfl⟩
 obtain ⟨z2, hb2, m0, m1⟩ := boxes2 eW
 have hB2 : Blk W2 w.heap.size zeroC 26 := by rw [← eW]; exact (Blk.new _ _ _).below ((Below.refl _ _).alloc (Nat.le_refl _) _)
 have hC2 : Blk W2 (w.heap.size + 1) [.int .i64 0, .int .i64 0] 35 := by rw [← eW]; exact Blk.new2 _ _ _ _ _
 have HB2 := Hd hb2
 have HE2 := Hd hB2
 have HF2 := Hd hC2
 have HTB := Hd ht
 have HRC := Hd (readX_calls s W2 (ht.below hb2))
 have HPX : Hid (parseX s = if (readX s).2.1 = 0 then (if formedS (readX s).1 then readX s else (Ex.zero, 2, 0)) else readX s) := rfl
 clear hb2 m0 m1 hB2 hC2 ht
 generalize readX s = r at *
 obtain ⟨x, c, a⟩ := r
 go_enter Tryz.func20, Tryz.ntmps20
 go_wp2_with (fail)
 clear eW
 refine HRC.out.mono ?_
 rintro e w3 ⟨v3, rfl, hx3, hb3⟩
 have HX3 := Hd hx3
 obtain ⟨vl, va, rfl, hvl, hva⟩ := hx3
 obtain ⟨pl, cl, rfl, _⟩ := hvl
 obtain ⟨pa, ca, rfl, _⟩ := hva
 obtain ⟨W4, eW4⟩ : ∃ W4, (w3.alloc (.cells #[.int .i64 x.kind, .int .i64 x.at_, .int .i64 x.num, .int .i64 x.ty, .string x.name, .slice pl x.lab.length cl, .slice pa x.kids.length ca] 26)).alloc (.cells #[.int .i64 c, .int .i64 a] 35) = W4 := ⟨_, rfl⟩
 obtain ⟨z4, hb4, m0, m1⟩ := boxes2 eW4
 have HBX : Hid (Blk W4 w3.heap.size [.int .i64 x.kind, .int .i64 x.at_, .int .i64 x.num, .int .i64 x.ty, .string x.name, .slice pl x.lab.length cl, .slice pa x.kids.length ca] 26) := by rw [← eW4]; exact (Blk.new _ _ _).below ((Below.refl _ _).alloc (Nat.le_refl _) _)
 have HBF : Hid (Blk W4 (w3.heap.size + 1) [.int .i64 c, .int .i64 a] 35) := by rw [← eW4]; exact Blk.new2 _ _ _ _ _
 have hb34 := hb3.trans (hb4.mono hb3.size)
 have HE4 := Hd (HE2.out.below hb34)
 have HF4 := Hd (HF2.out.below hb34)
 have HB4 := Hd (HB2.out.trans (hb34.mono HB2.out.size))
 have HN3 : Hid (w.heap.size + 1 < w3.heap.size) := (HF2.out.below hb3).lt
 have HX4 := Hd (HX3.out.stays (since_below hb4))
 have HW2 : Hid (W2.heap.size = w.heap.size + 2) := z2
 have HFM := Hd (formed_calls x _ W4 (HX4.out.stays (hide_keeps _ _)) (HTB.out.below HB4.out))
 obtain ⟨q0, q1, q2, q3, q4, q5, q6⟩ := HBX.out.cells7
 have r0 := HBF.out.cell 0
 have r1 := HBF.out.cell 1
 simp only [List.getElem?_cons_zero, List.getElem?_cons_succ] at r0 r1
 clear hb3 hb4 hb34 m0 m1 z4 HRC
 by_cases hc : c = 0
 · have hc1 : (c == 0) = true := by simp [hc]
   have HC0 := Hd hc
   clear hc
   cases hf : formedS x with
   | false =>
     rw [hf] at HFM
     have HPY : Hid (parseX s = (Ex.zero, 2, 0)) := by unfold Hid; rw [HPX.out]; show (if c = 0 then _ else _) = _; rw [if_pos HC0.out]; show (if formedS x = true then _ else _) = _; rw [hf]; rfl
     clear hf HPX
     go_wp2_with (fail)
     clear eW4
     refine HFM.out.mono ?_
     rintro e w5 ⟨rfl, hb5⟩
     have HE5 := Hd (HE4.out.below hb5)
     have HF5 := Hd (HF4.out.below hb5)
     have HB5 := Hd (HB4.out.trans (hb5.mono HB4.out.size))
     clear q0 q1 q2 q3 q4 q5 q6 r0 r1 hb5
     obtain ⟨q0, q1, q2, q3, q4, q5, q6⟩ := HE5.out.cells7
     obtain ⟨f0, f1, f2, f3, f4, f5, f6⟩ := HE5.out.fz7
     have r0 := HF5.out.cell 0
     have r1 := HF5.out.cell 1
     simp only [List.getElem?_cons_zero, List.getElem?_cons_succ] at r0 r1
     have k0 := HF5.out.fz 0
     have k1 := HF5.out.fz 1
     have hn1 : ¬ w.heap.size = w.heap.size + 1 := by omega
     obtain ⟨V0, eV0⟩ : ∃ V0, sev w5 w.heap.size (.int .i64 0) (.int .i64 0) (.int .i64 0) (.int .i64 0) (.string ⟨#[]⟩) (.slice none 0 0) (.slice none 0 0) = V0 := ⟨_, rfl⟩
     obtain ⟨V1, eV1⟩ : ∃ V1, (V0.setCell ⟨w.heap.size + 1, 0, none⟩ (.int .i64 2)).setCell ⟨w.heap.size + 1, 1, none⟩ (.int .i64 0) = V1 := ⟨_, rfl⟩
     obtain ⟨_, _, _, g4, g5, _, _, g8⟩ := pair_set HB5.out HE5.out HF5.out eV0.symm eV1.symm
     have HG4 := Hd g4
     have HG5 := Hd g5
     have HG8 := Hd g8
     have EV0 := Hd eV0
     have EV1 := Hd eV1
     clear g4 g5 g8 eV0 eV1
     go_wp2_with (fail)
     rw [HPY.out]
     have h1 := And.intro HG4.out (And.intro HG5.out HG8.out)
     rw [← EV1.out, ← EV0.out] at h1
     unfold sev at h1
     exact bodyPost_ret (pair_done _ rfl rfl h1.1 h1.2.1) rfl ⟨_, rfl, exIs_zero _, h1.2.2⟩
   | true =>
     rw [hf] at HFM
     have HPY : Hid (parseX s = (x, c, a)) := by unfold Hid; rw [HPX.out]; show (if c = 0 then _ else _) = _; rw [if_pos HC0.out]; show (if formedS x = true then _ else _) = _; rw [hf]; rfl
     clear hf HPX
     go_wp2_with (fail)
     clear eW4
     refine HFM.out.mono ?_
     rintro e w5 ⟨rfl, hb5⟩
     have HE5 := Hd (HE4.out.below hb5)
     have HF5 := Hd (HF4.out.below hb5)
     have HB5 := Hd (HB4.out.trans (hb5.mono HB4.out.size))
     have HBX5 := Hd (HBX.out.below hb5)
     have HBF5 := Hd (HBF.out.below hb5)
     have HX5 := Hd (HX4.out.stays (since_below hb5))
     clear q0 q1 q2 q3 q4 q5 q6 r0 r1 hb5
     have HS0 : Hid (∀ V : World, (∀ b, b = w3.heap.size ∨ b = w3.heap.size + 1 → V.heap[b]? = w5.heap[b]?) → (V.cell? ⟨w3.heap.size, 0, none⟩ = some (.int .i64 x.kind) ∧ V.cell? ⟨w3.heap.size, 1, none⟩ = some (.int .i64 x.at_) ∧ V.cell? ⟨w3.heap.size, 2, none⟩ = some (.int .i64 x.num) ∧ V.cell? ⟨w3.heap.size, 3, none⟩ = some (.int .i64 x.ty) ∧ V.cell? ⟨w3.heap.size, 4, none⟩ = some (.string x.name) ∧ V.cell? ⟨w3.heap.size, 5, none⟩ = some (.slice pl x.lab.length cl) ∧ V.cell? ⟨w3.heap.size, 6, none⟩ = some (.slice pa x.kids.length ca) ∧ V.cell? ⟨w3.heap.size + 1, 0, none⟩ = some (.int .i64 c) ∧ V.cell? ⟨w3.heap.size + 1, 1, none⟩ = some (.int .i64 a))) := fun V h => by
      have b4 : Blk V w3.heap.size [.int .i64 x.kind, .int .i64 x.at_, .int .i64 x.num, .int .i64 x.ty, .string x.name, .slice pl x.lab.length cl, .slice pa x.kids.length ca] 26 := (h _ (.inl rfl)).trans HBX5.out
      have b5 : Blk V (w3.heap.size + 1) [.int .i64 c, .int .i64 a] 35 := (h _ (.inr rfl)).trans HBF5.out
      obtain ⟨p0, p1, p2, p3, p4, p5, p6⟩ := b4.cells7
      exact ⟨p0, p1, p2, p3, p4, p5, p6, b5.cell 0, b5.cell 1⟩
     obtain ⟨q0, q1, q2, q3, q4, q5, q6⟩ := HE5.out.cells7
     obtain ⟨f0, f1, f2, f3, f4, f5, f6⟩ := HE5.out.fz7
     have r0 := HF5.out.cell 0
     have r1 := HF5.out.cell 1
     simp only [List.getElem?_cons_zero, List.getElem?_cons_succ] at r0 r1
     have k0 := HF5.out.fz 0
     have k1 := HF5.out.fz 1
     have hn1 : ¬ w.heap.size = w.heap.size + 1 := by omega
     obtain ⟨V0, eV0⟩ : ∃ V0, sev w5 w.heap.size (.int .i64 x.kind) (.int .i64 x.at_) (.int .i64 x.num) (.int .i64 x.ty) (.string x.name) (.slice pl x.lab.length cl) (.slice pa x.kids.length ca) = V0 := ⟨_, rfl⟩
     obtain ⟨V1, eV1⟩ : ∃ V1, (V0.setCell ⟨w.heap.size + 1, 0, none⟩ (.int .i64 c)).setCell ⟨w.heap.size + 1, 1, none⟩ (.int .i64 a) = V1 := ⟨_, rfl⟩
     obtain ⟨_, hq0, hz0, g4, g5, hq1, hz1, g8⟩ := pair_set HB5.out HE5.out HF5.out eV0.symm eV1.symm
     have HK1 := Hd (HS0.out w5.drew (fun b _ => rfl))
     have hK2 := HS0.out V0.drew (fun b hb => hq0 b (by have h1 := HN3.out; omega))
     have hK3 := HS0.out V1.drew (fun b hb => hq1 b (by have h1 := HN3.out; omega) (by have h1 := HN3.out; omega))
     have hXF : ExIs (since w.heap.size V1.drew) x (.agg #[.int .i64 x.kind, .int .i64 x.at_, .int .i64 x.num, .int .i64 x.ty, .string x.name, .slice pl x.lab.length cl, .slice pa x.kids.length ca]) := HX5.out.stays ((keeps_hide (q := fun b => decide (b < W2.heap.size)) (by show w5.heap.size ≤ V1.heap.size; rw [hz1]; exact Nat.le_refl _) fun b hb hp => ⟨hp, hq1 b (by have h1 := HW2.out; simp at hp; omega) (by have h1 := HW2.out; simp at hp; omega)⟩ : Keeps (since W2.heap.size w5) (since W2.heap.size V1.drew)).trans (since_mono _ (by have h1 := HW2.out; omega)))
     have hG : Blk V1.drew w.heap.size [.int .i64 x.kind, .int .i64 x.at_, .int .i64 x.num, .int .i64 x.ty, .string x.name, .slice pl x.lab.length cl, .slice pa x.kids.length ca] 26 ∧ Blk V1.drew (w.heap.size + 1) [.int .i64 c, .int .i64 a] 35 ∧ Below w.heap.size w V1.drew ∧ ExIs (since w.heap.size V1.drew) x (.agg #[.int .i64 x.kind, .int .i64 x.at_, .int .i64 x.num, .int .i64 x.ty, .string x.name, .slice pl x.lab.length cl, .slice pa x.kids.length ca]) := ⟨g4, g5, g8.drew, hXF⟩
     rw [← eV1, ← eV0] at hK3 hG
     rw [← eV0] at hK2
     unfold sev at hK2 hK3 hG
     have HK2 := Hd hK2
     have HK3 := Hd hK3
     have HG := Hd hG
     clear hK2 hK3 hG hXF g4 g5 g8 hq0 hq1 hz0 hz1 eV0 eV1
     go_wp2_with (fail)
     go_region_held3 (fun w' => w'.cell? ⟨w3.heap.size, 0, none⟩ = some (.int .i64 x.kind) ∧ w'.cell? ⟨w3.heap.size, 1, none⟩ = some (.int .i64 x.at_) ∧ w'.cell? ⟨w3.heap.size, 2, none⟩ = some (.int .i64 x.num) ∧ w'.cell? ⟨w3.heap.size, 3, none⟩ = some (.int .i64 x.ty) ∧ w'.cell? ⟨w3.heap.size, 4, none⟩ = some (.string x.name) ∧ w'.cell? ⟨w3.heap.size, 5, none⟩ = some (.slice pl x.lab.length cl) ∧ w'.cell? ⟨w3.heap.size, 6, none⟩ = some (.slice pa x.kids.length ca) ∧ w'.cell? ⟨w3.heap.size + 1, 0, none⟩ = some (.int .i64 c) ∧ w'.cell? ⟨w3.heap.size + 1, 1, none⟩ = some (.int .i64 a))
      (first | with_reducible exact HK1.out | with_reducible exact HK2.out | with_reducible exact HK3.out)
      (fail)
     all_goals go_wp2_with (fail)
     all_goals rw [HPY.out]
     all_goals exact bodyPost_ret (pair_done _ rfl rfl HG.out.1 HG.out.2.1) rfl ⟨_, rfl, HG.out.2.2.2, HG.out.2.2.1⟩
 · have hc1 : (c == 0) = false := by simp [hc]
   have HPY : Hid (parseX s = (x, c, a)) := by unfold Hid; rw [HPX.out]; show (if c = 0 then _ else _) = _; rw [if_neg hc]
   have HE5 := HE4
   have HF5 := HF4
   have HB5 := HB4
   have HBX5 := HBX
   have HBF5 := HBF
   have HX5 := HX4
   clear hc HPX
   go_wp2_with (fail)
   clear eW4 q0 q1 q2 q3 q4 q5 q6 r0 r1
   have HS0 : Hid (∀ V : World, (∀ b, b = w3.heap.size ∨ b = w3.heap.size + 1 → V.heap[b]? = W4.heap[b]?) → (V.cell? ⟨w3.heap.size, 0, none⟩ = some (.int .i64 x.kind) ∧ V.cell? ⟨w3.heap.size, 1, none⟩ = some (.int .i64 x.at_) ∧ V.cell? ⟨w3.heap.size, 2, none⟩ = some (.int .i64 x.num) ∧ V.cell? ⟨w3.heap.size, 3, none⟩ = some (.int .i64 x.ty) ∧ V.cell? ⟨w3.heap.size, 4, none⟩ = some (.string x.name) ∧ V.cell? ⟨w3.heap.size, 5, none⟩ = some (.slice pl x.lab.length cl) ∧ V.cell? ⟨w3.heap.size, 6, none⟩ = some (.slice pa x.kids.length ca) ∧ V.cell? ⟨w3.heap.size + 1, 0, none⟩ = some (.int .i64 c) ∧ V.cell? ⟨w3.heap.size + 1, 1, none⟩ = some (.int .i64 a))) := fun V h => by
    have b4 : Blk V w3.heap.size [.int .i64 x.kind, .int .i64 x.at_, .int .i64 x.num, .int .i64 x.ty, .string x.name, .slice pl x.lab.length cl, .slice pa x.kids.length ca] 26 := (h _ (.inl rfl)).trans HBX5.out
    have b5 : Blk V (w3.heap.size + 1) [.int .i64 c, .int .i64 a] 35 := (h _ (.inr rfl)).trans HBF5.out
    obtain ⟨p0, p1, p2, p3, p4, p5, p6⟩ := b4.cells7
    exact ⟨p0, p1, p2, p3, p4, p5, p6, b5.cell 0, b5.cell 1⟩
   obtain ⟨q0, q1, q2, q3, q4, q5, q6⟩ := HE5.out.cells7
   obtain ⟨f0, f1, f2, f3, f4, f5, f6⟩ := HE5.out.fz7
   have r0 := HF5.out.cell 0
   have r1 := HF5.out.cell 1
   simp only [List.getElem?_cons_zero, List.getElem?_cons_succ] at r0 r1
   have k0 := HF5.out.fz 0
   have k1 := HF5.out.fz 1
   have hn1 : ¬ w.heap.size = w.heap.size + 1 := by omega
   obtain ⟨V0, eV0⟩ : ∃ V0, sev W4 w.heap.size (.int .i64 x.kind) (.int .i64 x.at_) (.int .i64 x.num) (.int .i64 x.ty) (.string x.name) (.slice pl x.lab.length cl) (.slice pa x.kids.length ca) = V0 := ⟨_, rfl⟩
   obtain ⟨V1, eV1⟩ : ∃ V1, (V0.setCell ⟨w.heap.size + 1, 0, none⟩ (.int .i64 c)).setCell ⟨w.heap.size + 1, 1, none⟩ (.int .i64 a) = V1 := ⟨_, rfl⟩
   obtain ⟨_, hq0, hz0, g4, g5, hq1, hz1, g8⟩ := pair_set HB5.out HE5.out HF5.out eV0.symm eV1.symm
   have HK1 := Hd (HS0.out W4.drew (fun b _ => rfl))
   have hK2 := HS0.out V0.drew (fun b hb => hq0 b (by have h1 := HN3.out; omega))
   have hK3 := HS0.out V1.drew (fun b hb => hq1 b (by have h1 := HN3.out; omega) (by have h1 := HN3.out; omega))
   have hXF : ExIs (since w.heap.size V1.drew) x (.agg #[.int .i64 x.kind, .int .i64 x.at_, .int .i64 x.num, .int .i64 x.ty, .string x.name, .slice pl x.lab.length cl, .slice pa x.kids.length ca]) := HX5.out.stays ((keeps_hide (q := fun b => decide (b < W2.heap.size)) (by show W4.heap.size ≤ V1.heap.size; rw [hz1]; exact Nat.le_refl _) fun b hb hp => ⟨hp, hq1 b (by have h1 := HW2.out; simp at hp; omega) (by have h1 := HW2.out; simp at hp; omega)⟩ : Keeps (since W2.heap.size W4) (since W2.heap.size V1.drew)).trans (since_mono _ (by have h1 := HW2.out; omega)))
   have hG : Blk V1.drew w.heap.size [.int .i64 x.kind, .int .i64 x.at_, .int .i64 x.num, .int .i64 x.ty, .string x.name, .slice pl x.lab.length cl, .slice pa x.kids.length ca] 26 ∧ Blk V1.drew (w.heap.size + 1) [.int .i64 c, .int .i64 a] 35 ∧ Below w.heap.size w V1.drew ∧ ExIs (since w.heap.size V1.drew) x (.agg #[.int .i64 x.kind, .int .i64 x.at_, .int .i64 x.num, .int .i64 x.ty, .string x.name, .slice pl x.lab.length cl, .slice pa x.kids.length ca]) := ⟨g4, g5, g8.drew, hXF⟩
   rw [← eV1, ← eV0] at hK3 hG
   rw [← eV0] at hK2
   unfold sev at hK2 hK3 hG
   have HK2 := Hd hK2
   have HK3 := Hd hK3
   have HG := Hd hG
   clear hK2 hK3 hG hXF g4 g5 g8 hq0 hq1 hz0 hz1 eV0 eV1
   go_wp2_with (fail)
   go_region_held3 (fun w' => w'.cell? ⟨w3.heap.size, 0, none⟩ = some (.int .i64 x.kind) ∧ w'.cell? ⟨w3.heap.size, 1, none⟩ = some (.int .i64 x.at_) ∧ w'.cell? ⟨w3.heap.size, 2, none⟩ = some (.int .i64 x.num) ∧ w'.cell? ⟨w3.heap.size, 3, none⟩ = some (.int .i64 x.ty) ∧ w'.cell? ⟨w3.heap.size, 4, none⟩ = some (.string x.name) ∧ w'.cell? ⟨w3.heap.size, 5, none⟩ = some (.slice pl x.lab.length cl) ∧ w'.cell? ⟨w3.heap.size, 6, none⟩ = some (.slice pa x.kids.length ca) ∧ w'.cell? ⟨w3.heap.size + 1, 0, none⟩ = some (.int .i64 c) ∧ w'.cell? ⟨w3.heap.size + 1, 1, none⟩ = some (.int .i64 a))
    (first | with_reducible exact HK1.out | with_reducible exact HK2.out | with_reducible exact HK3.out)
    (fail)
   all_goals go_wp2_with (fail)
   all_goals rw [HPY.out]
   all_goals exact bodyPost_ret (pair_done _ rfl rfl HG.out.1 HG.out.2.1) rfl ⟨_, rfl, HG.out.2.2.2, HG.out.2.2.1⟩
end
section
open Go.RowKit
def isLf (a : Tk) : Bool := (a.1 == 3 || a.1 == 4) && a.2 == tLeft
def brk (x : Ex) (t : Int) : Nat := (toksP x t).countP isLf
theorem quoteK_count (b : Bool) (K : List Tk) : (quoteK b K).countP isLf = K.countP isLf + (if b then 1 else 0) := by
 have h1 : isLf (4, tLeft) = true := by decide
 have h2 : isLf (4, tRight) = false := by decide
 unfold quoteK
 cases b with
 | false => rfl
 | true =>
   rw [if_pos rfl, if_pos rfl, List.countP_cons, List.countP_append, List.countP_cons, List.countP_nil, h1, h2]
   simp
theorem brk_mono (x : Ex) {t t' : Int} (h : t ≤ t') : brk x t ≤ brk x t' ∧ brk x t' ≤ brk x t + 1 := by
 obtain ⟨kind, at_, n, ty, name, l, a⟩ := x
 unfold brk
 rw [toksP, toksP]
 by_cases h1 : kind = 1
 · rw [if_pos h1, if_pos h1]; omega
 by_cases h2 : kind = 2
 · simp only [h1, h2, if_false, if_true]; omega
 by_cases h4 : kind = 4
 · simp only [h1, h2, h4, if_false, if_true]; omega
 by_cases h5 : kind = 5
 · simp only [h1, h2, h4, h5, if_false, if_true]; omega
 by_cases ha : a.length = 1
 · simp only [h1, h2, h4, h5, ha, if_false, if_true]; omega
 · simp only [h1, h2, h4, h5, ha, if_false, quoteK_count]
   by_cases e : levelT name < t
   · rw [decide_eq_true e, decide_eq_true (show levelT name < t' by omega)]; simp
   · rw [decide_eq_false e]
     simp only [Bool.false_eq_true, if_false]
     split <;> omega
theorem sepTk_count (l : List Ex) : (sepTk (4, tComma) (toksLP l 0 0)).countP isLf = (l.map fun x => brk x 0).sum := by
 have hc : isLf (4, tComma) = false := by decide
 rw [toksLP_get0]
 cases l with
 | nil => rfl
 | cons x l =>
   rw [List.map_cons, sepTk, List.countP_append, List.map_cons, List.sum_cons]
   congr 1
   induction l with
   | nil => rfl
   | cons y l ih =>
     simp only [List.map_cons, List.flatten_cons, List.countP_append, List.countP_cons, hc, List.sum_cons] at ih ⊢
     rw [ih]
     simp [brk]
theorem names_count (l : List Txt) : (sepTk (4, tComma) (l.map fun s => [((1 : Int), s)])).countP isLf = 0 := by
 rw [List.countP_eq_zero]
 intro a ha
 have : a = (4, tComma) ∨ a.1 = 1 := by
  cases l with
  | nil => cases ha
  | cons s l =>
    rw [List.map_cons, sepTk] at ha
    simp only [List.mem_append, List.mem_flatten, List.mem_map] at ha
    rcases ha with ha | ⟨m, ⟨u, ⟨v, _, rfl⟩, rfl⟩, ha⟩
    · simp at ha; rw [ha]; exact .inr rfl
    · simp at ha
      rcases ha with rfl | rfl
      · exact .inl rfl
      · exact .inr rfl
 rcases this with rfl | h
 · decide
 · unfold isLf; rw [h]; simp
theorem labK_count (l : Lab) : (labK l).countP isLf = 0 := by
 have hp : ∀ p : Pol, (polK p).countP isLf = 0 := fun p => by
  unfold polK
  rw [List.countP_cons, List.countP_cons, names_count]
  have e1 : isLf (1, p.1) = false := by simp [isLf]
  have e2 : isLf (4, tColon) = false := by decide
  rw [e1, e2]
  rfl
 have h1 : isLf (4, tOpen) = false := by decide
 have h2 : isLf (4, tShut) = false := by decide
 have h3 : isLf (4, tSemi) = false := by decide
 have hs : (sepTk (4, tSemi) (l.map polK)).countP isLf = 0 := by
  cases l with
  | nil => rfl
  | cons p l =>
    rw [List.map_cons, sepTk, List.countP_append, hp]
    induction l with
    | nil => rfl
    | cons q l ih =>
      simp only [List.map_cons, List.flatten_cons, List.countP_append, List.countP_cons, h3, hp] at ih ⊢
      rw [← Nat.zero_add (List.countP isLf _)] at ih
      simpa using ih
 unfold labK
 rw [List.countP_cons, List.countP_append, hs, List.countP_cons, List.countP_nil, h1, h2]
 rfl
section
variable {T : List Tok} {E : Int}
def Cn (T : List Tok) (k : Nat) : Nat := (T.take k).countP fun t => isLf (t.1, t.2.2)
theorem Cn_succ (T : List Tok) (k : Nat) : Cn T k ≤ Cn T (k + 1) := by
 unfold Cn
 by_cases h : k < T.length
 · rw [List.take_succ_eq_append_getElem h, List.countP_append]
   omega
 · rw [List.take_of_length_le (by omega), List.take_of_length_le (by omega)]
   exact Nat.le_refl _
theorem Cn_left {k : Nat} (h : tkIs T k tLeft = true) : Cn T (k + 1) = Cn T k + 1 := by
 unfold Cn
 by_cases hk : k < T.length
 · rw [List.take_succ_eq_append_getElem hk, List.countP_append, List.countP_cons, List.countP_nil]
   have e : tkNext T k = T[k] := by unfold tkNext; rw [List.getElem?_eq_getElem hk]; rfl
   unfold tkIs at h
   rw [e] at h
   have : isLf (T[k].1, T[k].2.2) = true := h
   rw [this]
   rfl
 · have e : tkNext T k = (0, 0, ⟨#[]⟩) := by unfold tkNext; rw [List.getElem?_eq_none (by omega)]; rfl
   unfold tkIs at h
   rw [e] at h
   exact absurd h (by decide)
theorem Cn_mono {k k' : Nat} (h : k ≤ k') : Cn T k ≤ Cn T k' := by
 induction h with
 | refl => exact Nat.le_refl _
 | step _ ih => exact Nat.le_trans ih (Cn_succ T _)
def Costs (T : List Tok) (one : Nat → Rs Ex) (t : Int) : Prop := ∀ k y k', one k = .ok y k' → Cn T k + brk y t ≤ Cn T k'
theorem opLoop_costs {one : Nat → Rs Ex} {lv : Int} (hl : 0 < lv) (h1 : Costs T one (lv + 1)) : ∀ (f : Nat) (x : Ex) (k : Nat) (y : Ex) (k' : Nat) (c : Nat), c + brk x lv ≤ Cn T k → opLoop T one lv f x k = .ok y k' → c + brk y lv ≤ Cn T k' := by
 intro f
 induction f with
 | zero => intro x k y k' c hc h; cases h; exact hc
 | succ f ih =>
   intro x k y k' c hc h
   unfold opLoop at h
   split at h
   · cases h; exact hc
   · rename_i hn
     obtain ⟨z, k2, e1, e2⟩ := bind_ok h
     have hz := h1 _ _ _ e1
     have hs := Cn_succ T k
     have hlev : levelT (tkNext T k).2.2 = lv := by
      by_cases e : levelT (tkNext T k).2.2 = lv
      · exact e
      · exact absurd (.inr e) hn
     refine ih _ _ _ _ c ?_ e2
     generalize (tkNext T k).2.2 = name at hlev
     have hnm : isLf (4, name) = false := by
      cases hx : isLf (4, name) with
      | false => rfl
      | true =>
        unfold isLf at hx
        simp at hx
        subst hx
        rw [show levelT tLeft = 0 by decide] at hlev
        omega
     have e3 : brk (.mk 3 (tkNext T k).2.1 0 0 name [] [x, z]) lv = brk x lv + brk z (lv + 1) := by
      unfold brk
      rw [toksP, if_neg (by decide), if_neg (by decide), if_neg (by decide), if_neg (by decide), if_neg (by simp), hlev, quoteK_count, decide_eq_false (by omega)]
      simp [toksLP, List.countP_append, List.countP_cons, hnm]
     rw [e3]
     omega
theorem exprL_costs {prim : Nat → Rs Ex} (hp : Costs T prim 6) : ∀ j : Nat, j ≤ 5 → Costs T (exprL T prim j) (6 - (j : Int)) := by
 intro j
 induction j with
 | zero => intro _; exact hp
 | succ j ih =>
   intro hj k y k' h
   obtain ⟨x, k1, e1, e2⟩ := bind_ok h
   have h1 := ih (by omega) _ _ _ e1
   have h2 := (brk_mono x (show 6 - ((j + 1 : Nat) : Int) ≤ 6 - (j : Int) by omega)).1
   have e5 : 5 - (j : Int) = 6 - ((j + 1 : Nat) : Int) := by omega
   have e6 : 6 - ((j + 1 : Nat) : Int) + 1 = 6 - (j : Int) := by omega
   have := opLoop_costs (T := T) (lv := 5 - (j : Int)) (by omega) (by rw [e5, e6]; exact ih (by omega)) _ _ _ _ _ (Cn T k) (by rw [e5]; omega) e2
   rw [e5] at this
   exact this
theorem listGo_costs {one : Nat → Rs Ex} (h1 : Costs T one 1) (most : Nat) (sign : Txt) (f : Nat) : ∀ (l : List Ex) (k : Nat) (x : List Ex) (k' c : Nat), c + (l.map fun y => brk y 0).sum ≤ Cn T k → listGo T E one most sign f l k = .ok x k' → c + (x.map fun y => brk y 0).sum ≤ Cn T k' := by
 induction f with
 | zero => intro l k x k' c hc h; cases h; exact hc
 | succ f ih =>
   intro l k x k' c hc h
   unfold listGo at h
   split at h
   · split at h
     · cases h
     · obtain ⟨y, k2, e1, e2⟩ := bind_ok h
       have := h1 _ _ _ e1
       have hs := Cn_succ T k
       have := (brk_mono y (show (0 : Int) ≤ 1 by decide)).1
       refine ih _ _ _ _ c ?_ e2
       rw [List.map_append, List.sum_append]
       simp only [List.map_cons, List.map_nil, List.sum_cons, List.sum_nil]
       omega
   · cases h; exact hc
theorem argsP_costs {prim : Nat → Rs Ex} (hp : Costs T prim 6) {k k' : Nat} {l : List Ex} (h : argsP T E prim k = .ok l k') : Cn T k + 1 + (l.map fun y => brk y 0).sum ≤ Cn T k' := by
 have h5 : Costs T (exprL T prim 5) 1 := exprL_costs hp 5 (Nat.le_refl _)
 obtain ⟨u, k1, e1, h⟩ := bind_ok h
 obtain ⟨hm, rfl⟩ := mustP_ok e1
 have hc := Cn_left hm
 split at h
 · cases h
   have := Cn_succ T (k + 1)
   simp only [List.map_nil, List.sum_nil]
   omega
 · obtain ⟨l', k2, e2, h⟩ := bind_ok h
   obtain ⟨u3, k3, e3, h⟩ := bind_ok h
   have h3 := (mustP_ok e3).2
   cases h
   obtain ⟨y, k4, e4, e5⟩ := bind_ok e2
   have h4 := h5 _ _ _ e4
   have h6 := (brk_mono y (show (0 : Int) ≤ 1 by decide)).1
   have := listGo_costs h5 _ _ _ _ _ _ _ (Cn T k + 1) (by simp only [List.map_cons, List.map_nil, List.sum_cons, List.sum_nil]; omega) e5
   have := Cn_succ T k2
   subst h3
   omega
theorem primP_costs (d : Nat) : Costs T (primP T E d) 6 := by
 induction d with
 | zero => intro k x k' h; cases h
 | succ d ih =>
   intro k x k' h
   have h5 : Costs T (exprL T (primP T E d) 5) 1 := exprL_costs ih 5 (Nat.le_refl _)
   have hs := Cn_succ T k
   unfold primP at h
   split at h
   · cases h
     have : brk (.mk 1 (tkNext T k).2.1 (numT (tkNext T k).2.2) 1 ⟨#[]⟩ [] []) 6 = 0 := by unfold brk; rw [toksP, if_pos rfl, if_neg (by decide)]; simp [isLf]
     omega
   split at h
   · cases h
     have : brk (.mk 1 (tkNext T k).2.1 1 2 ⟨#[]⟩ [] []) 6 = 0 := by unfold brk; rw [toksP, if_pos rfl, if_pos rfl, if_pos rfl]; decide
     omega
   split at h
   · cases h
     have : brk (.mk 1 (tkNext T k).2.1 0 2 ⟨#[]⟩ [] []) 6 = 0 := by unfold brk; rw [toksP, if_pos rfl, if_pos rfl, if_neg (by decide)]; decide
     omega
   split at h
   · split at h
     · obtain ⟨l, k1, e1, h⟩ := bind_ok h
       have := argsP_costs ih e1
       cases h
       have e : brk (.mk 4 (tkNext T k).2.1 0 0 (tkNext T k).2.2 [] l) 6 = 1 + (l.map fun y => brk y 0).sum := by
        have e1 : isLf (1, (tkNext T k).2.2) = false := by simp [isLf]
        have e2 : isLf (4, tLeft) = true := by decide
        have e3 : isLf (4, tRight) = false := by decide
        rw [brk, toksP, if_neg (by decide), if_neg (by decide), if_pos rfl, List.countP_cons, List.countP_cons, List.countP_append, sepTk_count, List.countP_cons, List.countP_nil, e1, e2, e3]
        simp
        omega
       omega
     · cases h
       have : brk (.mk 2 (tkNext T k).2.1 0 0 (tkNext T k).2.2 [] []) 6 = 0 := by unfold brk; rw [toksP, if_neg (by decide), if_pos rfl]; simp [isLf]
       omega
   split at h
   · rename_i hmn
     obtain ⟨y, k1, e1, h⟩ := bind_ok h
     have hy := ih _ _ _ e1
     cases h
     have hnm : isLf (4, (tkNext T k).2.2) = false := by
      have : (tkNext T k).2.2 = tMinus ∨ (tkNext T k).2.2 = tNot := by
       unfold tkIs at hmn
       simp only [Bool.or_eq_true, Bool.and_eq_true, beq_iff_eq] at hmn
       rcases hmn with ⟨_, h⟩ | ⟨_, h⟩
       · exact .inl h
       · exact .inr h
      rcases this with e | e <;> (rw [e]; decide)
     have e : brk (.mk 3 (tkNext T k).2.1 0 0 (tkNext T k).2.2 [] [y]) 6 = brk y 6 := by
      rw [brk, toksP, if_neg (by decide), if_neg (by decide), if_neg (by decide), if_neg (by decide), if_pos (by rfl), List.countP_cons, hnm]
      simp [toksLP, brk]
     omega
   split at h
   · rename_i hlf
     obtain ⟨y, k1, e1, h⟩ := bind_ok h
     obtain ⟨u, k2, e2, h⟩ := bind_ok h
     have hy := h5 _ _ _ e1
     have h2 := (mustP_ok e2).2
     cases h
     have := Cn_left hlf
     have := (brk_mono x (show (1 : Int) ≤ 6 by decide)).2
     have := Cn_succ T k1
     subst h2
     omega
   split at h
   · obtain ⟨u1, k1, e1, h⟩ := bind_ok h
     obtain ⟨x2, k2, e2, h⟩ := bind_ok h
     obtain ⟨u3, k3, e3, h⟩ := bind_ok h
     obtain ⟨l4, k4, e4, h⟩ := bind_ok h
     obtain ⟨u5, k5, e5, h⟩ := bind_ok h
     obtain ⟨hm, h1⟩ := mustP_ok e1
     have hy := h5 _ _ _ e2
     have h3 := (mustP_ok e3).2
     have h4 := labelP_mono _ _ _ e4
     have h6 := (mustP_ok e5).2
     cases h
     subst h1
     have := Cn_left hm
     have := Cn_mono (T := T) (show k2 ≤ k' by omega)
     have h7 := (brk_mono x2 (show (0 : Int) ≤ 1 by decide)).1
     have e : brk (.mk 5 (tkNext T k).2.1 0 0 ⟨#[]⟩ l4 [x2]) 6 = 1 + brk x2 0 := by
      have e1 : isLf (3, tRelease) = false := by decide
      have e2 : isLf (4, tLeft) = true := by decide
      have e3 : isLf (4, tRight) = false := by decide
      have e4 : isLf (3, tTo) = false := by decide
      rw [brk, toksP, if_neg (by decide), if_neg (by decide), if_neg (by decide), if_pos rfl]
      simp only [List.countP_cons, List.countP_append, labK_count, e1, e2, e3, e4, toksLP, List.countP_nil, List.getD_cons_zero]
      simp [brk]
      omega
     omega
   · cases h
end
/-! What is alike is printed alike. -/
theorem sameLab_eq : ∀ {l m : Lab}, sameLab l m = true → l = m
 | [], [], _ => rfl
 | [], q :: m, h => by simp [sameLab, eqF] at h
 | p :: l, [], h => by simp [sameLab, eqF] at h
 | p :: l, q :: m, h => by
   have h' : samePol p q = true ∧ sameLab l m = true := by simpa [sameLab, eqF] using h
   have h2 := sameLab_eq h'.2
   have h3 := h'.1
   unfold samePol at h3
   simp only [Bool.and_eq_true, beq_iff_eq] at h3
   rw [h2, show p = q from Prod.ext h3.1 h3.2]
mutual
theorem same_toks : ∀ (x y : Ex), sameE x y = true → ∀ t, toksP x t = toksP y t
 | .mk k a n ty s l ks, .mk k' a' n' ty' s' l' ks', h, t => by
   simp only [sameE, Ex.kind, Ex.num, Ex.ty, Ex.name, Ex.lab, Ex.kids, Bool.and_eq_true, beq_iff_eq] at h
   obtain ⟨⟨⟨⟨⟨rfl, rfl⟩, rfl⟩, rfl⟩, h5⟩, h6⟩ := h
   obtain rfl := sameLab_eq h5
   have hl := same_toksL ks ks' h6
   rw [toksP, toksP, (hl 0 0).1, (hl 6 0).1, (hl (levelT s) 1).1, (hl 0 0).2]
theorem same_toksL : ∀ (l m : List Ex), sameL l m = true → ∀ t d, toksLP l t d = toksLP m t d ∧ l.length = m.length
 | [], [], _, t, d => ⟨rfl, rfl⟩
 | [], y :: m, h, t, d => by simp [sameL] at h
 | x :: l, [], h, t, d => by simp [sameL] at h
 | x :: l, y :: m, h, t, d => by
   simp only [sameL, Bool.and_eq_true] at h
   have h2 := same_toksL l m h.2 (t + d) d
   rw [toksLP, toksLP, same_toks x y h.1 t, h2.1]
   exact ⟨rfl, by rw [List.length_cons, List.length_cons, h2.2]⟩
end
/-! Brackets as bytes. -/
theorem count_word {q : Int → Bool} (hq : q 40 = false) {t : List UInt8} (h : ∀ b ∈ t, q b.toNat = true) : t.count 40 = 0 := by
 rw [List.count_eq_zero]
 intro hm
 have := h 40 hm
 rw [show (((40 : UInt8).toNat : Nat) : Int) = 40 from rfl, hq] at this
 cases this
theorem step_count {r : List UInt8} {k : Int} {t : Txt} (h : stepB r = .tok k t) : (bytesOf t).count 40 = if isLf (k, t) then 1 else 0 := by
 cases r with
 | nil => cases h
 | cons c r =>
   have no : (bytesOf t).count 40 = 0 → isLf (k, t) = false := fun h0 => by
    cases hx : isLf (k, t) with
    | false => rfl
    | true =>
      unfold isLf at hx
      simp only [Bool.and_eq_true, beq_iff_eq] at hx
      rw [hx.2] at h0
      exact absurd h0 (by decide)
   rcases ((step_ways rfl).1 h).2 with ⟨_, h⟩ | ⟨_, _, h⟩ | ⟨_, _, h⟩
   · have e : (bytesOf t).count 40 = 0 := by
      rw [wordOf_tok h, bytesOf_txtOf]
      exact count_word (q := wordB) (by decide) fun b hb => tw_mem hb
     rw [e, no e]
     rfl
   · have e : (bytesOf t).count 40 = 0 := by
      rw [numOf_tok h, bytesOf_txtOf]
      exact count_word (q := digitB) (by decide) fun b hb => tw_mem hb
     rw [e, no e]
     rfl
   · obtain ⟨rfl, hm, _⟩ := signsFind_tok h
     exact (by decide +kernel : ∀ t ∈ signsL, (bytesOf t).count 40 = if isLf (4, t) then 1 else 0) t hm
theorem reads_count {r : List UInt8} {L : List Tk} (h : Lexes r L) : r.count 40 = L.countP isLf := by
 induction h with
 | nil => rfl
 | skip h ih => rw [List.count_cons, ih]; rfl
 | tok ht h1 h ih => rw [List.count_append, List.countP_cons, step_count h1, ih, Nat.add_comm]
theorem scanGo_count {s : Txt} : ∀ (f a : Nat) (l L : List Tok), scanGo s f a l = (L, 0, 0) → (L.countP fun t => isLf (t.1, t.2.2)) ≤ (l.countP fun t => isLf (t.1, t.2.2)) + (restOf s a).count 40 := by
 intro f
 induction f with
 | zero =>
   intro a l L h
   have e' : l = L := congrArg (fun x : List Tok × Int × Int => x.1) h
   subst e'
   omega
 | succ f ih =>
   intro a l L h
   by_cases hlt : a < s.size
   · have hfit := step_fits hlt
     cases hst : stepOf s a (s[a].toNat) with
     | skip n =>
       rw [scanGo_skip hlt hst] at h
       have h1 := ih _ _ _ h
       have e : restOf s (a + n) = (restOf s a).drop n := by unfold restOf; rw [List.drop_drop]
       have h2 : ((restOf s a).drop n).count 40 ≤ (restOf s a).count 40 := (List.drop_sublist n _).count_le _
       rw [e] at h1
       omega
     | bad c =>
       rw [hst] at hfit
       rw [scanGo_bad hlt hst] at h
       have e : c = 0 := congrArg (fun x : List Tok × Int × Int => x.2.1) h
       exact absurd e hfit
     | tok k t =>
       by_cases hm : l.length = 600
       · rw [scanGo_many hlt hst hm] at h
         have e : (2 : Int) = 0 := congrArg (fun x : List Tok × Int × Int => x.2.1) h
         exact absurd e (by decide)
       · rw [scanGo_tok hlt hst hm] at h
         have h1 := ih _ _ _ h
         rw [step_rest hlt] at hst
         have hp := step_prefix hst
         rw [List.isPrefixOf_iff_prefix] at hp
         obtain ⟨u, hu⟩ := hp
         have e : restOf s (a + t.size) = u := by
          have : restOf s (a + t.size) = (restOf s a).drop t.size := by unfold restOf; rw [List.drop_drop]
          rw [this, ← hu, ← bytesOf_len, List.drop_left]
         rw [e] at h1
         have e2 : (restOf s a).count 40 = (if isLf (k, t) then 1 else 0) + u.count 40 := by rw [← hu, List.count_append, step_count hst]
         rw [List.countP_append, List.countP_cons, List.countP_nil] at h1
         rw [e2]
         have e3 : isLf (k, (↑a, t).2) = isLf (k, t) := rfl
         simp only [Nat.zero_add] at h1
         omega
   · rw [scanGo_end hlt] at h
     have e' : l = L := congrArg (fun x : List Tok × Int × Int => x.1) h
     subst e'
     omega
theorem scanOf_count {s : Txt} {L : List Tok} (h : scanOf s = (L, 0, 0)) : (L.countP fun t => isLf (t.1, t.2.2)) ≤ (bytesOf s).count 40 := by
 unfold scanOf at h
 split at h
 · have e : (2 : Int) = 0 := congrArg (fun x : List Tok × Int × Int => x.2.1) h
   exact absurd e (by decide)
 · have := scanGo_count _ _ _ _ h
   have e : restOf s 0 = bytesOf s := by unfold restOf; rw [List.drop_zero]
   rw [e] at this
   simpa using this
theorem text_reads {x : Ex} (h : formedS x = true) : Lexes (bytesOf (textP x 0)) (toksP x 0) := by
 have := (item_text 12 x (formedS_fm.1 h) 0).rd [] [] Stop.nil .nil
 simpa using this
theorem scan_code {s : Txt} (h : (scanOf s).2.1 = 0) : scanOf s = ((scanOf s).1, 0, 0) := by
 obtain ⟨L, c, a, e⟩ : ∃ L c a, scanOf s = (L, c, a) := ⟨_, _, _, rfl⟩
 rw [e] at h ⊢
 have hc : c = 0 := h
 subst hc
 obtain rfl := scanOf_zero e
 rfl
theorem same_form {x y : Ex} (h : sameE x y = true) (d : Int) : formB x d = formB y d := by
 obtain ⟨k, a, n, ty, s, l, ks⟩ := x
 obtain ⟨k', a', n', ty', s', l', ks'⟩ := y
 simp only [sameE, Ex.kind, Ex.num, Ex.ty, Ex.name, Ex.lab, Ex.kids, Bool.and_eq_true, beq_iff_eq] at h
 obtain ⟨⟨⟨⟨⟨rfl, rfl⟩, rfl⟩, rfl⟩, h5⟩, h6⟩ := h
 obtain rfl := sameLab_eq h5
 have hl := (same_toksL ks ks' h6 0 0).2
 unfold formB
 simp only [Ex.kind, Ex.num, Ex.ty, Ex.name, Ex.lab, Ex.kids, hl]
 rfl
theorem same_kids {f g : Unit → Ex → Bool × Unit} (hfg : ∀ x y, sameE x y = true → f () x = g () y) : ∀ (l m : List Ex), sameL l m = true → kidsS f () l = kidsS g () m
 | [], [], _ => rfl
 | [], y :: m, h => by simp [sameL] at h
 | x :: l, [], h => by simp [sameL] at h
 | x :: l, y :: m, h => by
   simp only [sameL, Bool.and_eq_true] at h
   simp only [kidsS, hfg x y h.1, same_kids hfg l m h.2]
theorem same_walk : ∀ (n : Nat) (x y : Ex), sameE x y = true → walkS visF n () x = walkS visF n () y := by
 intro n
 induction n with
 | zero =>
   intro x y h
   rw [walkS_eq, walkS_eq]
   have hk : sameL x.kids y.kids = true := by
    obtain ⟨k, a, n, ty, s, l, ks⟩ := x
    simp only [sameE, Bool.and_eq_true] at h
    exact h.2
   have := same_kids (f := subS visF 0) (g := subS visF 0) (fun _ _ _ => rfl) _ _ hk
   unfold finS
   rw [this]
   have hv : ∀ u d, visF u x d = visF u y d := fun u d => by unfold visF; rw [same_form h]
   rw [hv]
 | succ n ih =>
   intro x y h
   rw [walkS_eq, walkS_eq]
   have hk : sameL x.kids y.kids = true := by
    obtain ⟨k, a, n, ty, s, l, ks⟩ := x
    simp only [sameE, Bool.and_eq_true] at h
    exact h.2
   have := same_kids (f := subS visF (n + 1)) (g := subS visF (n + 1)) (fun x y h => ih x y h) _ _ hk
   unfold finS
   rw [this]
   have hv : ∀ u d, visF u x d = visF u y d := fun u d => by unfold visF; rw [same_form h]
   rw [hv]
theorem same_formed {x y : Ex} (h : sameE x y = true) (hx : formedS x = true) : formedS y = true := by
 have := same_walk 12 x y h
 unfold formedS at hx ⊢
 exact (congrArg (fun p : Bool × Unit => p.1) this).symm.trans hx
theorem parse_text {x : Ex} (h : formedS x = true) (hz : (scanOf (textP x 0)).2.1 = 0) : ∃ y, parseX (textP x 0) = (y, 0, 0) ∧ sameE x y = true := by
 obtain ⟨M, e1, e2⟩ := scanOf_reads (text_reads h) hz
 have hf := formedS_fm.1 h
 have hL : Lies M 0 (toksP x 1 ++ []) := by
  unfold Lies
  rw [List.drop_zero, List.append_nil, e2]
  exact toksP_zero hf.form
 have h5 : (6 : Int) - ((5 : Nat) : Int) = 1 := by omega
 obtain ⟨y, sy, ey⟩ := good_all (T := M) (E := (textP x 0).size) 12 x hf 12 (Nat.le_refl _) 5 0 [] (by omega) (by rw [h5]; exact hL) ⟨by show (0 : Int) ≤ _; decide, fun a L e => by cases e⟩
 rw [h5] at ey
 have ed := ey.done (by omega) hL.skip (by show (0 : Int) < _; decide)
 have hlen := hL.skip.len
 have hr : readX (textP x 0) = (y, 0, 0) := by
  unfold readX
  rw [if_pos hz, e1, ed]
  show (if _ < M.length then _ else _) = _
  rw [if_neg (by rw [List.length_nil] at hlen; omega)]
 refine ⟨y, ?_, sy⟩
 unfold parseX
 rw [hr, if_pos rfl, if_pos (same_formed sy h)]
theorem fewerK_law {x : Ex} (h : formedS x = true) {s : Txt} (hc : (bytesOf s).count 40 < (bytesOf (textP x 0)).count 40) (h0 : (parseX s).2.1 = 0) : sameE x (parseX s).1 = false := by
 cases hs : sameE x (parseX s).1 with
 | false => rfl
 | true =>
   exfalso
   have e1 : (readX s).2.1 = 0 ∧ (parseX s).1 = (readX s).1 := by
    unfold parseX at h0 ⊢
    split
    · rename_i hr
      rw [if_pos hr] at h0
      split
      · exact ⟨hr, rfl⟩
      · rename_i hf
        rw [if_neg hf] at h0
        have : (2 : Int) = 0 := h0
        exact absurd this (by decide)
    · rename_i hr
      rw [if_neg hr] at h0
      exact absurd h0 hr
   rw [e1.2] at hs
   have h1 := e1.1
   unfold readX at h1 hs
   by_cases hz : (scanOf s).2.1 = 0
   · rw [if_pos hz] at h1 hs
     have e2 := scan_code hz
     generalize (scanOf s).1 = T at *
     have hcnt := scanOf_count e2
     cases hq : exprL T (primP T s.size 12) 5 0 with
     | bad c a =>
       rw [hq] at hs
       have hzr : sameE x Ex.zero = true := hs
       have hw := form_ways (formedS_fm.1 h).form
       have : x.kind = 0 := by
        obtain ⟨k, a, n, ty, s, l, ks⟩ := x
        simp only [sameE, Bool.and_eq_true, beq_iff_eq] at hzr
        exact hzr.1.1.1.1.1
       omega
     | ok y k =>
       rw [hq] at hs h1
       have hs' : sameE x y = true := by
        by_cases hk : k < T.length
        · have : (if k < T.length then (Ex.zero, (1 : Int), tkAt T s.size k) else (y, 0, 0)).2.1 = 0 := h1
          rw [if_pos hk] at this
          have h1 : (1 : Int) = 0 := this
          exact absurd h1 (by decide)
        · have : sameE x (if k < T.length then (Ex.zero, (1 : Int), tkAt T s.size k) else (y, 0, 0)).1 = true := hs
          rw [if_neg hk] at this
          exact this
       have h5 : (6 : Int) - ((5 : Nat) : Int) = 1 := by omega
       have hcost := exprL_costs (T := T) (primP_costs (E := (s.size : Int)) 12) 5 (Nat.le_refl _) _ _ _ hq
       rw [h5] at hcost
       have hb : brk y 1 = brk x 0 := by
        unfold brk
        rw [← same_toks x y hs' 1, toksP_zero (formedS_fm.1 h).form]
       have hr := reads_count (text_reads h)
       have hle : Cn T k ≤ T.countP fun t => isLf (t.1, t.2.2) := (List.take_sublist k T).countP_le
       have hbx : brk x 0 = (toksP x 0).countP isLf := rfl
       omega
   · rw [if_neg hz] at h1
     exact absurd h1 hz
end
section
open Go.RowKit
def readL (s : Txt) : Lab × Int × Int :=
 if (scanOf s).2.1 = 0 then (match labelP (scanOf s).1 s.size 0 with
  | .ok x k => if k < (scanOf s).1.length then ([], 1, tkAt (scanOf s).1 s.size k) else (x, 0, 0)
  | .bad c a => ([], c, a))
 else ([], (scanOf s).2.1, (scanOf s).2.2)
def ReadsL (w : World) (r : Lab × Int × Int) (e : Ending) (w' : World) : Prop := ∃ v, e = .returned (.tuple #[v, .agg #[.int .i64 r.2.1, .int .i64 r.2.2]]) ∧ Lbl (since w.heap.size w') r.1 v ∧ Below w.heap.size w w'
theorem lbl_nil (W : World) : Lbl W [] (.slice none 0 0) := ⟨none, 0, rfl, Nat.le_refl _, by unfold maxLen; omega, .inl rfl⟩
end
section
open Go.RowKit
theorem label_back {l : Lab} (h : fitsB l = true) (hz : (scanOf (printS l)).2.1 = 0) : readL (printS l) = (l, 0, 0) := by
 have hr : Lexes (bytesOf (printS l)) (labK l) := by
  have := (item_label h).rd [] [] Stop.nil .nil
  simpa using this
 obtain ⟨M, e1, e2⟩ := scanOf_reads hr hz
 have hL : Lies M 0 (labK l ++ []) := by
  unfold Lies
  rw [List.drop_zero, List.append_nil, e2]
 have el := label_reads (E := ((printS l).size : Int)) h hL
 have hlen := hL.skip.len
 unfold readL
 rw [if_pos hz, e1]
 show (match labelP M (printS l).size 0 with | .ok x k => if k < M.length then ([], 1, tkAt M (printS l).size k) else (x, 0, 0) | .bad c a => ([], c, a)) = _
 rw [el]
 show (if _ < M.length then _ else _) = _
 rw [if_neg (by rw [List.length_nil] at hlen; omega)]
theorem fits_formed {l : Lab} {at_ : Int} {y : Ex} (h : formedS (.mk 5 at_ 0 0 ⟨#[]⟩ l [y]) = true) : fitsB l = true := by
 have := form_ways (formedS_fm.1 h).form
 simp only [Ex.kind, Ex.kids, Ex.name, Ex.lab, Ex.num, Ex.ty] at this
 rcases this with ⟨h, _⟩ | ⟨h, _⟩ | ⟨h, _⟩ | ⟨h, _⟩ | ⟨_, _, _, h, _⟩
 · exact absurd h (by decide)
 · exact absurd h (by decide)
 · exact absurd h (by decide)
 · exact absurd h (by decide)
 · exact h
def dp (r : List UInt8) : Int := (r.count 40 : Int) - (r.count 41 : Int)
theorem dp_append (a b : List UInt8) : dp (a ++ b) = dp a + dp b := by
 unfold dp
 rw [List.count_append, List.count_append]
 omega
theorem dp_cons (c : UInt8) (b : List UInt8) : dp (c :: b) = (if c = 40 then 1 else if c = 41 then -1 else 0) + dp b := by
 unfold dp
 rw [List.count_cons, List.count_cons]
 by_cases h : c = 40
 · subst h; simp; omega
 · by_cases h2 : c = 41
   · subst h2; simp; omega
   · simp [h, h2]
def Bal (r : List UInt8) : Prop := dp r = 0 ∧ ∀ p q, r = p ++ q → 0 ≤ dp p
theorem Bal.append {a b : List UInt8} (ha : Bal a) (hb : Bal b) : Bal (a ++ b) := by
 refine ⟨by rw [dp_append, ha.1, hb.1]; rfl, fun p q e => ?_⟩
 rcases List.append_eq_append_iff.1 e with ⟨m, rfl, rfl⟩ | ⟨m, rfl, rfl⟩
 · rw [dp_append, ha.1]
   have := hb.2 m q rfl
   omega
 · exact ha.2 p m rfl
theorem Bal.wrap {a : List UInt8} (h : Bal a) : Bal (40 :: (a ++ [41])) := by
 refine ⟨by rw [dp_cons, dp_append, h.1]; rfl, fun p q e => ?_⟩
 cases p with
 | nil => show 0 ≤ dp []; decide
 | cons c p =>
   rw [List.cons_append] at e
   injection e with e1 e2
   subst e1
   rw [dp_cons, if_pos rfl]
   rcases List.append_eq_append_iff.1 e2 with ⟨m, e3, e4⟩ | ⟨m, rfl, e4⟩
   · rw [e3, dp_append, h.1]
     have : m = [] ∨ m = [41] := by
      cases m with
      | nil => exact .inl rfl
      | cons c m =>
        rw [List.cons_append] at e4
        injection e4 with e5 e6
        subst e5
        cases m with
        | nil => exact .inr rfl
        | cons d m => cases e6
     rcases this with rfl | rfl <;> decide
   · have := h.2 p m rfl
     omega
theorem Bal.free {r : List UInt8} (h1 : 40 ∉ r) (h2 : 41 ∉ r) : Bal r := by
 have h : ∀ p q, r = p ++ q → dp p = 0 := fun p q e => by
  unfold dp
  rw [List.count_eq_zero.2 (fun h => h1 (by rw [e]; exact List.mem_append_left _ h)), List.count_eq_zero.2 (fun h => h2 (by rw [e]; exact List.mem_append_left _ h))]
  rfl
 exact ⟨h r [] (by simp), fun p q e => by rw [h p q e]; exact Int.le_refl _⟩
theorem bal_word {q : Int → Bool} (h40 : q 40 = false) (h41 : q 41 = false) {r : List UInt8} (h : ∀ b ∈ r, q b.toNat = true) : Bal r := by
 refine .free (fun hm => ?_) (fun hm => ?_)
 · have := h 40 hm
   rw [show (((40 : UInt8).toNat : Nat) : Int) = 40 from rfl, h40] at this
   cases this
 · have := h 41 hm
   rw [show (((41 : UInt8).toNat : Nat) : Int) = 41 from rfl, h41] at this
   cases this
theorem bal_name {s : Txt} (h : isName s = true) : Bal (bytesOf s) := bal_word (q := wordB) (by decide) (by decide) (name_parts h).2.2.1
theorem bal_join {sep : Txt} (hs : Bal (bytesOf sep)) {l : List Txt} (h : ∀ s ∈ l, Bal (bytesOf s)) : Bal (bytesOf (joinT l sep)) := by
 rw [joinT_bytes]
 cases l with
 | nil => exact .free (by simp [Lib.join]) (by simp [Lib.join])
 | cons s l =>
   rw [List.map_cons, Lib.join_cons]
   refine (h s (by simp)).append ?_
   have h2 : ∀ s ∈ l, Bal (bytesOf s) := fun t ht => h t (by simp [ht])
   clear h
   induction l with
   | nil => exact .free (by simp [Lib.joinTail]) (by simp [Lib.joinTail])
   | cons t l ih =>
     have e : Lib.joinTail (bytesOf sep) ((t :: l).map bytesOf) = bytesOf sep ++ (bytesOf t ++ Lib.joinTail (bytesOf sep) (l.map bytesOf)) := by simp [Lib.joinTail]
     rw [e]
     exact hs.append ((h2 t (by simp)).append (ih fun u hu => h2 u (by simp [hu])))
theorem bal_label {l : Lab} (h : fitsB l = true) : Bal (bytesOf (printS l)) := by
 obtain ⟨h1, h2⟩ := fits_parts h
 have e : printS l = tOpen ++ joinT (l.map polT) tSemi ++ tShut := by unfold printS; rw [h1]; rfl
 rw [e, bytesOf_append, bytesOf_append]
 refine (Bal.append (.free (by decide) (by decide)) (bal_join (.free (by decide) (by decide)) fun s hs => ?_)).append (.free (by decide) (by decide))
 obtain ⟨p, hp, rfl⟩ := List.mem_map.1 hs
 obtain ⟨h3, h4⟩ := h2 p hp
 have e2 : polT p = p.1 ++ tColon ++ joinT p.2 tComma := rfl
 rw [e2, bytesOf_append, bytesOf_append]
 exact ((bal_name h3).append (.free (by decide) (by decide))).append (bal_join (.free (by decide) (by decide)) fun s hs => bal_name (h4 s hs))
theorem bal_sign {s : Txt} (h : s ∈ signsL) (hn : s ≠ tLeft) (hm : s ≠ tRight) : Bal (bytesOf s) := by
 have := (by decide +kernel : ∀ t ∈ signsL, t ≠ tLeft → t ≠ tRight → 40 ∉ bytesOf t ∧ 41 ∉ bytesOf t) s h hn hm
 exact .free this.1 this.2
theorem bal_text : ∀ (n : Nat) (x : Ex), Fm n x → ∀ t, Bal (bytesOf (textP x t)) := by
 intro n
 induction n with
 | zero =>
   intro x h
   have hf := h.form
   exfalso
   unfold formB at hf
   simp at hf
 | succ n ih =>
   intro x h t
   have hk := h.kids
   have hw := form_ways h.form
   have ihk : ∀ y ∈ x.kids, ∀ t, Bal (bytesOf (textP y t)) := fun y hy t => ih y (hk y hy) t
   clear h hk ih
   obtain ⟨kind, at_, num, ty, name, l, a⟩ := x
   simp only [Ex.kind, Ex.kids, Ex.name, Ex.lab, Ex.num, Ex.ty] at hw ihk
   rcases hw with ⟨rfl, h1, rfl, h2, h3⟩ | ⟨rfl, h1, h2, h3, h4, h5⟩ | ⟨rfl, h1, h2, h3, h4⟩ | ⟨rfl, h1, h2, h3, h4, h5⟩ | ⟨rfl, h1, h2, h3, h4, h5⟩
   · rw [textP, if_pos rfl]
     rcases h3 with ⟨rfl, h3, h4⟩ | ⟨rfl, h3⟩
     · rw [if_neg (by decide)]
       have hb : bytesOf ⟨(Lib.itoa num).toArray⟩ = Lib.itoa num := bytesOf_txtOf _
       rw [hb]
       have hm := digits_mem num.toNat
       rw [← itoa_nat h3] at hm
       exact bal_word (q := digitB) (by decide) (by decide) hm
     · rw [if_pos rfl]
       split <;> exact .free (by decide) (by decide)
   · rw [textP, if_neg (by decide), if_pos rfl]
     exact bal_name h1
   · simp only [textP, (by decide : ¬ (3 : Int) = 1), (by decide : ¬ (3 : Int) = 2), (by decide : ¬ (3 : Int) = 4), (by decide : ¬ (3 : Int) = 5), if_false]
     rcases h1 with ⟨h1, h5⟩ | ⟨h1, h5⟩
     · rw [if_pos h1]
       obtain ⟨y, rfl⟩ : ∃ y, a = [y] := by
        cases a with
        | nil => simp at h1
        | cons y b => cases b with
          | nil => exact ⟨y, rfl⟩
          | cons z b => simp at h1
       have e1 : (textsP [y] 6 0).getD 0 ⟨#[]⟩ = textP y 6 := by simp [textsP]
       rw [e1, bytesOf_append]
       refine Bal.append ?_ (ihk y (by simp) 6)
       rcases h5 with rfl | rfl <;> exact .free (by decide) (by decide)
     · rw [if_neg (by omega)]
       obtain ⟨y, z, rfl⟩ : ∃ y z, a = [y, z] := by
        cases a with
        | nil => simp at h1
        | cons y b => cases b with
          | nil => simp at h1
          | cons z c => cases c with
            | nil => exact ⟨y, z, rfl⟩
            | cons u c => simp at h1
       have e1 : (textsP [y, z] (levelT name) 1).getD 0 ⟨#[]⟩ = textP y (levelT name) := by simp [textsP]
       have e3 : (textsP [y, z] (levelT name) 1).getD 1 ⟨#[]⟩ = textP z (levelT name + 1) := by simp [textsP]
       rw [e1, e3]
       have hsg : Bal (bytesOf name) := bal_sign (level_sign h5) (fun e => by rw [e] at h5; exact absurd h5 (by decide)) (fun e => by rw [e] at h5; exact absurd h5 (by decide))
       have hbl : Bal (bytesOf blank1) := .free (by decide) (by decide)
       have hin : Bal (bytesOf (textP y (levelT name) ++ blank1 ++ name ++ blank1 ++ textP z (levelT name + 1))) := by
        simp only [bytesOf_append]
        exact ((((ihk y (by simp) _).append hbl).append hsg).append hbl).append (ihk z (by simp) _)
       unfold quoteT
       split
       · have := hin.wrap
         rw [bytesOf_append, bytesOf_append, List.append_assoc]
         exact this
       · exact hin
   · rw [textP, if_neg (by decide), if_neg (by decide), if_pos rfl, bytesOf_append]
     refine (bal_name h1).append ?_
     have := (bal_join (sep := commaSp) (.free (by decide) (by decide)) (l := textsP a 0 0) fun s hs => by
      obtain ⟨y, hy, t', rfl⟩ := textsP_mem hs
      exact ihk y hy t').wrap
     rw [bytesOf_append, bytesOf_append, List.append_assoc]
     exact this
   · rw [textP, if_neg (by decide), if_neg (by decide), if_neg (by decide), if_pos rfl]
     obtain ⟨y, rfl⟩ : ∃ y, a = [y] := by
      cases a with
      | nil => simp at h1
      | cons y b => cases b with
        | nil => exact ⟨y, rfl⟩
        | cons z b => simp at h1
     have e1 : (textsP [y] 0 0).getD 0 ⟨#[]⟩ = textP y 0 := by simp [textsP]
     rw [e1]
     have hin : Bal (bytesOf (textP y 0) ++ (bytesOf toT ++ bytesOf (printS l))) := (ihk y (by simp) 0).append (Bal.append (.free (by decide) (by decide)) (bal_label h3))
     have hb : bytesOf (releaseT ++ textP y 0 ++ toT ++ printS l ++ tRight) = bytesOf tRelease ++ (40 :: ((bytesOf (textP y 0) ++ (bytesOf toT ++ bytesOf (printS l))) ++ [41])) := by
      simp only [bytesOf_append, List.append_assoc]
      rfl
     rw [hb]
     exact Bal.append (.free (by decide) (by decide)) hin.wrap
theorem bal_rest {x : Ex} (h : formedS x = true) (i : Nat) : dp ((bytesOf (textP x 0)).drop i) ≤ 0 := by
 have hb := bal_text 12 x (formedS_fm.1 h) 0
 have h1 := hb.2 _ _ (List.take_append_drop i (bytesOf (textP x 0))).symm
 have h2 := dp_append ((bytesOf (textP x 0)).take i) ((bytesOf (textP x 0)).drop i)
 rw [List.take_append_drop, hb.1] at h2
 omega
end
section
open Go.RowKit
theorem idx_step : ∀ (r : List UInt8), 0 < r.count 40 → ∃ q : Nat, Lib.indexByte r 40 = q ∧ q < r.length ∧ (r.take (q + 1)).count 40 = 1 ∧ r[q]? = some 40
 | [], h => by simp at h
 | b :: r, h => by
   unfold Lib.indexByte
   by_cases hb : b = 40
   · subst hb
     exact ⟨0, by simp, by simp, by simp, rfl⟩
   · have hb2 : (b == 40) = false := beq_false_of_ne hb
     rw [List.count_cons, hb2] at h
     obtain ⟨q, h1, h2, h3, h4⟩ := idx_step r (by simpa using h)
     refine ⟨q + 1, ?_, by simp; omega, ?_, by simpa using h4⟩
     · rw [hb2, if_neg (by decide), h1, if_neg (by simp)]
       omega
     · rw [List.take_succ_cons, List.count_cons, hb2, h3]
       rfl
def Behind (s : Txt) (m p : Nat) : Prop := p ≤ s.size ∧ ((bytesOf s).take p).count 40 = m ∧ (0 < m → 0 < p ∧ (bytesOf s)[p - 1]? = some 40)
theorem behind_zero (s : Txt) : Behind s 0 0 := ⟨Nat.zero_le _, by simp, fun h => absurd h (Nat.lt_irrefl _)⟩
theorem behind_step {s : Txt} {m p n : Nat} (h : Behind s m p) (hn : (bytesOf s).count 40 = n) (hm : m < n) : ∃ q : Nat, Lib.indexByte ((bytesOf s).drop p) 40 = q ∧ q ≤ s.size ∧ p + q + 1 ≤ s.size ∧ Behind s (m + 1) (p + q + 1) := by
 obtain ⟨h1, h2, h3⟩ := h
 have hc : ((bytesOf s).take p).count 40 + ((bytesOf s).drop p).count 40 = n := by rw [← List.count_append, List.take_append_drop, hn]
 obtain ⟨q, e1, e2, e3, e4⟩ := idx_step ((bytesOf s).drop p) (by omega)
 rw [List.length_drop, bytesOf_len] at e2
 refine ⟨q, e1, by omega, by omega, by omega, ?_, fun _ => ⟨by omega, ?_⟩⟩
 · have : (bytesOf s).take (p + q + 1) = (bytesOf s).take p ++ ((bytesOf s).drop p).take (q + 1) := by
    rw [Nat.add_assoc, List.take_add]
   rw [this, List.count_append, h2, e3]
 · rw [List.getElem?_drop] at e4
   rw [show p + q + 1 - 1 = p + q by omega]
   exact e4
def dpAt (s : Txt) (i j : Nat) : Int := dp (((bytesOf s).drop i).take (j - i))
theorem dpAt_self (s : Txt) (i : Nat) : dpAt s i i = 0 := by unfold dpAt; rw [Nat.sub_self]; simp [dp]
theorem dpAt_succ {s : Txt} {i j : Nat} (hi : i ≤ j) (hj : j < s.size) : dpAt s i (j + 1) = dpAt s i j + (if s[j] = 40 then 1 else if s[j] = 41 then -1 else 0) := by
 unfold dpAt
 have e : j + 1 - i = (j - i) + 1 := by omega
 have hlen : j - i < ((bytesOf s).drop i).length := by rw [List.length_drop, bytesOf_len]; omega
 have hg : ((bytesOf s).drop i)[j - i] = s[j] := by
  rw [List.getElem_drop]
  have : i + (j - i) = j := by omega
  simp only [this]
  exact bytesOf_at s j hj
 rw [e, List.take_succ_eq_append_getElem hlen, dp_append, hg]
 congr 1
 rw [dp_cons]
 simp [dp]
theorem dpAt_end {x : Ex} (h : formedS x = true) (i : Nat) : dpAt (textP x 0) i (textP x 0).size ≤ 0 := by
 unfold dpAt
 rw [List.take_of_length_le (by rw [List.length_drop, bytesOf_len]; omega)]
 exact bal_rest h i
def cutT (s : Txt) (i j : Nat) : Txt := s.extract 0 i ++ blank1 ++ s.extract (i + 1) j ++ blank1 ++ s.extract (j + 1) s.size
theorem cutT_count {s : Txt} {i j : Nat} (hij : i < j) (hj : j < s.size) (hi : (bytesOf s)[i]? = some 40) : (bytesOf (cutT s i j)).count 40 < (bytesOf s).count 40 := by
 have hb : bytesOf (cutT s i j) = (bytesOf s).take i ++ ([32] ++ (((bytesOf s).drop (i + 1)).take (j - (i + 1)) ++ ([32] ++ (bytesOf s).drop (j + 1)))) := by
  unfold cutT
  simp only [bytesOf_append, bytesOf_extract, List.append_assoc]
  rw [List.drop_zero, Nat.sub_zero, List.take_of_length_le (l := (bytesOf s).drop (j + 1)) (by rw [List.length_drop, bytesOf_len]; omega)]
  rfl
 have hlen : i < (bytesOf s).length := by rw [bytesOf_len]; omega
 have hs : bytesOf s = (bytesOf s).take i ++ (40 :: (((bytesOf s).drop (i + 1)).take (j - (i + 1)) ++ (bytesOf s).drop j)) := by
  have h1 : (bytesOf s)[i] = 40 := by rw [List.getElem?_eq_getElem hlen] at hi; simpa using hi
  have h2 : ((bytesOf s).drop (i + 1)).take (j - (i + 1)) ++ (bytesOf s).drop j = (bytesOf s).drop (i + 1) := by
   have : (bytesOf s).drop j = ((bytesOf s).drop (i + 1)).drop (j - (i + 1)) := by rw [List.drop_drop]; congr 1; omega
   rw [this, List.take_append_drop]
  rw [h2, ← h1, ← List.drop_eq_getElem_cons hlen, List.take_append_drop]
 have hd : ((bytesOf s).drop (j + 1)).count 40 ≤ ((bytesOf s).drop j).count 40 := by
  rw [← List.drop_drop]
  exact (List.drop_sublist 1 _).count_le _
 have e1 : ([32] : List UInt8).count 40 = 0 := by decide
 have hs2 := congrArg (List.count 40) hs
 rw [hb, hs2]
 generalize ((bytesOf s).drop (i + 1)).take (j - (i + 1)) = m at *
 generalize (bytesOf s).take i = a at *
 generalize (bytesOf s).drop (j + 1) = d1 at *
 generalize (bytesOf s).drop j = d0 at *
 clear hs hs2 hb
 simp only [List.count_append, List.count_cons_self, e1]
 omega
end
section
open Go.RowKit Go.Maps
theorem catchL_idle (n4 n5 : Nat) (W : World) :
 CallsD Tryz.prog 156 #[.pointer (some ⟨n4, 0, none⟩), .pointer (some ⟨n5, 0, none⟩)] .returning W fun e u' w' => e = .returned (.tuple #[]) ∧ u' = .returning ∧ w' = W := by
 refine callsD_of_wpS Tryz.func156 rfl fun c₀ cs hu => ?_
 apply wpS_seq
 apply wpS_region
 simp [wpOpsS, go_sem, recoverD, hu, Tryz.ntmps156, Exit.thenS]
 simp only [Array.replicate_succ, Array.replicate_zero, List.push_toArray, List.append_toArray, List.nil_append, List.cons_append, List.setIfInBounds_toArray, List.set_cons_zero, List.set_cons_succ]
 refine wpS_post ?_
 go_wp2_with (fail)
 refine ⟨rfl, .returning, ?_, .tuple #[], results_none rfl _ _ _, rfl, rfl, rfl⟩
 cases c₀
 simp_all
theorem catchL_stop (n4 n5 : Nat) (W : World) (c a c0 a0 : Int) (x0 : Value) (h4 : Blk W n4 [x0] 23) (h5 : Blk W n5 [.int .i64 c0, .int .i64 a0] 35) (hne : n4 ≠ n5) :
 CallsD Tryz.prog 156 #[.pointer (some ⟨n4, 0, none⟩), .pointer (some ⟨n5, 0, none⟩)] (.panicking [{ v := stopV c a, recovered := false }]) W fun e u' w' => e = .returned (.tuple #[]) ∧ u' = .panicking [{ v := stopV c a, recovered := true }] ∧
  (Blk w' n4 [.slice none 0 0] 23 ∧ Blk w' n5 [.int .i64 c, .int .i64 a] 35 ∧ ∀ n w0, n ≤ n4 → n ≤ n5 → n ≤ W.heap.size → Below n w0 W → Below n w0 w') := by
 have hta : ∀ (w : World), (Instr.typeAssert (.iface 190 (.agg #[.int .i64 c, .int .i64 a])) 20 190 true).run Tryz.prog w = .ok (.tuple #[.agg #[.int .i64 c, .int .i64 a], .bool true]) w := fun _ => rfl
 have q0 := h4.cell 0
 have f0 := h4.fz 0
 have g0 := h5.cell 0
 have g1 := h5.cell 1
 have k0 := h5.fz 0
 have k1 := h5.fz 1
 refine callsD_of_wpS Tryz.func156 rfl fun c₀ cs hu => ?_
 apply wpS_seq
 apply wpS_region
 simp [wpOpsS, go_sem, recoverD, hu, Tryz.ntmps156, Exit.thenS, stopV]
 simp only [Array.replicate_succ, Array.replicate_zero, List.push_toArray, List.append_toArray, List.nil_append, List.cons_append, List.setIfInBounds_toArray, List.set_cons_zero, List.set_cons_succ]
 refine wpS_post ?_
 obtain ⟨W2, eW⟩ : ∃ W2, W.alloc (.cells #[.int .i64 c, .int .i64 a] 190) = W2 := ⟨_, rfl⟩
 obtain ⟨z2, hb2, m0⟩ := boxes1 eW
 have HN : Hid (n4 < W.heap.size ∧ n5 < W.heap.size ∧ n4 ≠ n5) := ⟨h4.lt, h5.lt, hne⟩
 have hn1 : ¬ n4 = n5 := hne
 have hn2 : ¬ n5 = n4 := fun e => hne e.symm
 obtain ⟨V0, eV0⟩ : ∃ V0, W2.setCell ⟨n4, 0, none⟩ (.slice none 0 0) = V0 := ⟨_, rfl⟩
 obtain ⟨V1, eV1⟩ : ∃ V1, (V0.setCell ⟨n5, 0, none⟩ (.int .i64 c)).setCell ⟨n5, 1, none⟩ (.int .i64 a) = V1 := ⟨_, rfl⟩
 have hB : Blk W2 W.heap.size [.int .i64 c, .int .i64 a] 190 := by rw [← eW]; exact Blk.new _ _ _
 have hB0 : Blk V0 W.heap.size [.int .i64 c, .int .i64 a] 190 := by rw [← eV0]; exact hB.other (by have := HN.out; omega) _ _
 have hB1 : Blk V1 W.heap.size [.int .i64 c, .int .i64 a] 190 := by rw [← eV1]; exact (hB0.other (by have := HN.out; omega) _ _).other (by have := HN.out; omega) _ _
 have h40 : Blk V0 n4 [.slice none 0 0] 23 := by
  rw [← eV0]
  exact (h4.below hb2).set 0 (.slice none 0 0)
 have h41 : Blk V1 n4 [.slice none 0 0] 23 := by rw [← eV1]; exact (h40.other hne _ _).other hne _ _
 have h50 : Blk V0 n5 [.int .i64 c0, .int .i64 a0] 35 := by rw [← eV0]; exact (h5.below hb2).other (fun e => hne e.symm) _ _
 have h51 : Blk V1 n5 [.int .i64 c, .int .i64 a] 35 := by
  have := (h50.set 0 (.int .i64 c)).set 1 (.int .i64 a)
  rw [← eV1]
  simpa using this
 have hlast : ∀ n w0, n ≤ n4 → n ≤ n5 → n ≤ W.heap.size → Below n w0 W → Below n w0 V1.drew := fun n w0 k1 k2 k3 k4 => by
  rw [← eV1, ← eV0]
  exact ((((k4.trans (hb2.mono k3)).setCell k1 _).setCell k2 _).setCell k2 _).drew
 have HK1 : Hid (W2.drew.cell? ⟨W.heap.size, 0, none⟩ = some (.int .i64 c) ∧ W2.drew.cell? ⟨W.heap.size, 1, none⟩ = some (.int .i64 a)) := ⟨hB.cell 0, hB.cell 1⟩
 have HK2 : V0.drew.cell? ⟨W.heap.size, 0, none⟩ = some (.int .i64 c) ∧ V0.drew.cell? ⟨W.heap.size, 1, none⟩ = some (.int .i64 a) := ⟨hB0.cell 0, hB0.cell 1⟩
 have HK3 : V1.drew.cell? ⟨W.heap.size, 0, none⟩ = some (.int .i64 c) ∧ V1.drew.cell? ⟨W.heap.size, 1, none⟩ = some (.int .i64 a) := ⟨hB1.cell 0, hB1.cell 1⟩
 have HV1 : Hid (Blk V1.drew n4 [.slice none 0 0] 23 ∧ Blk V1.drew n5 [.int .i64 c, .int .i64 a] 35 ∧ ∀ n w0, n ≤ n4 → n ≤ n5 → n ≤ W.heap.size → Below n w0 W → Below n w0 V1.drew) := ⟨h41, h51, hlast⟩
 have EV1 := Hd eV1
 have EV0 := Hd eV0
 rw [← eV1, ← eV0] at HK3
 rw [← eV0] at HK2
 clear eV1 eV0 hB0 hB1 h40 h41 h50 h51 hlast
 replace HK2 := Hd HK2
 replace HK3 := Hd HK3
 have HC4 := Hd (h4.below hb2)
 have HC5 := Hd (h5.below hb2)
 clear q0 f0 g0 g1 k0 k1 h4 h5 hb2 m0 z2 hne hB
 have q0 := HC4.out.cell 0
 have f0 := HC4.out.fz 0
 have g0 := HC5.out.cell 0
 have g1 := HC5.out.cell 1
 simp only [List.getElem?_cons_zero, List.getElem?_cons_succ] at q0 g0 g1
 have k0 := HC5.out.fz 0
 have k1 := HC5.out.fz 1
 go_wp2_with (fail)
 refine wp_region_noPanic ?_
 go_region_held3 (fun w' => w'.cell? ⟨W.heap.size, 0, none⟩ = some (.int .i64 c) ∧ w'.cell? ⟨W.heap.size, 1, none⟩ = some (.int .i64 a))
  (first | with_reducible exact HK1.out | with_reducible exact HK2.out | with_reducible exact HK3.out)
  (fail)
 refine NoPanic.normal ?_
 go_wp2_with (fail)
 refine ⟨rfl, .panicking [{ v := stopV c a, recovered := true }], ?_, .tuple #[], results_none rfl _ _ _, rfl, rfl, ?_⟩
 · rw [List.cons.injEq]
   refine ⟨?_, rfl⟩
   cases c₀
   simp_all [stopV]
 · have h1 := HV1.out
   rw [← EV1.out, ← EV0.out] at h1
   with_reducible exact h1
end
section
open Go.RowKit Go.Maps
theorem readsL_bad {w W : World} {tmps : Array Value} {c a c0 a0 : Int} {x0 : Value} (ht4 : tmps[4]? = some (.pointer (some ⟨w.heap.size, 0, none⟩))) (ht5 : tmps[5]? = some (.pointer (some ⟨w.heap.size + 1, 0, none⟩)))
 (hb : Below w.heap.size w W) (h4 : Blk W w.heap.size [x0] 23) (h5 : Blk W (w.heap.size + 1) [.int .i64 c0, .int .i64 a0] 35) :
 Leaves Tryz.prog Tryz.f62 tmps (ReadsL w ([], c, a)) [{ target := .fn (.func 156) #[.pointer (some ⟨w.heap.size, 0, none⟩), .pointer (some ⟨w.heap.size + 1, 0, none⟩)], args := #[] }] (.panicking [{ v := stopV c a, recovered := false }]) W := by
 refine leaves_cons (f := 156) (args := #[.pointer (some ⟨w.heap.size, 0, none⟩), .pointer (some ⟨w.heap.size + 1, 0, none⟩)]) (by simp) (by simp [go_sem]) ?_
 refine (catchL_stop w.heap.size (w.heap.size + 1) W c a c0 a0 x0 h4 h5 (by omega)).mono ?_
 rintro e u' w'' ⟨rfl, rfl, g4, g5, g6⟩
 have q0 := g4.cell 0
 have r0 := g5.cell 0
 have r1 := g5.cell 1
 simp only [List.getElem?_cons_zero, List.getElem?_cons_succ] at q0 r0 r1
 refine ⟨.tuple #[.slice none 0 0, .agg #[.int .i64 c, .int .i64 a]], ?_, _, rfl, lbl_nil _, g6 _ _ (Nat.le_refl _) (by omega) hb.size hb⟩
 simp [results, Tryz.results62, go_sem, ht4, ht5, q0, r0, r1]
theorem readsL_ok {w W : World} {tmps : Array Value} {c a : Int} {x : Lab} {x0 : Value} (ht4 : tmps[4]? = some (.pointer (some ⟨w.heap.size, 0, none⟩))) (ht5 : tmps[5]? = some (.pointer (some ⟨w.heap.size + 1, 0, none⟩)))
 (hb : Below w.heap.size w W) (h4 : Blk W w.heap.size [x0] 23) (h5 : Blk W (w.heap.size + 1) [.int .i64 c, .int .i64 a] 35) (hx : Lbl (since w.heap.size W) x x0) :
 Leaves Tryz.prog Tryz.f62 tmps (ReadsL w (x, c, a)) [{ target := .fn (.func 156) #[.pointer (some ⟨w.heap.size, 0, none⟩), .pointer (some ⟨w.heap.size + 1, 0, none⟩)], args := #[] }] .returning W := by
 refine leaves_cons (f := 156) (args := #[.pointer (some ⟨w.heap.size, 0, none⟩), .pointer (some ⟨w.heap.size + 1, 0, none⟩)]) (by simp) (by simp [go_sem]) ?_
 refine (catchL_idle w.heap.size (w.heap.size + 1) W).mono ?_
 rintro e u' w'' ⟨rfl, rfl, rfl⟩
 have q0 := h4.cell 0
 have r0 := h5.cell 0
 have r1 := h5.cell 1
 simp only [List.getElem?_cons_zero, List.getElem?_cons_succ] at q0 r0 r1
 refine ⟨.tuple #[x0, .agg #[.int .i64 c, .int .i64 a]], ?_, _, rfl, hx, hb⟩
 simp [results, Tryz.results62, go_sem, ht4, ht5, q0, r0, r1]
theorem readsL_none {w W : World} {tmps : Array Value} {c a : Int} {x : Lab} {x0 : Value} (ht4 : tmps[4]? = some (.pointer (some ⟨w.heap.size, 0, none⟩))) (ht5 : tmps[5]? = some (.pointer (some ⟨w.heap.size + 1, 0, none⟩)))
 (hb : Below w.heap.size w W) (h4 : Blk W w.heap.size [x0] 23) (h5 : Blk W (w.heap.size + 1) [.int .i64 c, .int .i64 a] 35) (hx : Lbl (since w.heap.size W) x x0) :
 Leaves Tryz.prog Tryz.f62 tmps (ReadsL w (x, c, a)) [] .returning W := by
 have q0 := h4.cell 0
 have r0 := h5.cell 0
 have r1 := h5.cell 1
 simp only [List.getElem?_cons_zero, List.getElem?_cons_succ] at q0 r0 r1
 refine ⟨.tuple #[x0, .agg #[.int .i64 c, .int .i64 a]], ?_, _, rfl, hx, hb⟩
 simp [results, Tryz.results62, go_sem, ht4, ht5, q0, r0, r1]
end
section
open Go.RowKit Go.Maps
theorem readLP_calls (s : Txt) (w : World) (ht : Tab w) : Calls Tryz.prog 62 #[.string s, .func (.func 63) #[] #[]] w (ReadsL w (readL s)) := by
 have hmf := mf_run
 have eg : ∀ args w, (callFunc 63 args).run Tryz.prog w = .ok (.enter 63 args) w := enters_at Tryz.func63 (by kernel_rfl) rfl
 obtain ⟨W2, eW⟩ : ∃ W2, (w.alloc (.cells #[.slice none 0 0] 23)).alloc (.cells #[.int .i64 0, .int .i64 0] 35) = W2 := ⟨_, rfl⟩
 obtain ⟨z2, hb2, m0, m1⟩ := boxes2 eW
 have hB2 : Blk W2 w.heap.size [.slice none 0 0] 23 := by rw [← eW]; exact (Blk.new _ _ _).below ((Below.refl _ _).alloc (Nat.le_refl _) _)
 have hC2 : Blk W2 (w.heap.size + 1) [.int .i64 0, .int .i64 0] 35 := by rw [← eW]; exact Blk.new2 _ _ _ _ _
 have HB2 := Hd hb2
 have HSC := Hd (scan_calls s W2)
 have HE2 := Hd hB2
 have HF2 := Hd hC2
 have HTB := Hd ht
 clear hb2 m0 m1 z2 hB2 hC2 ht
 by_cases hc : (scanOf s).2.1 = 0
 · obtain ⟨T, hT⟩ : ∃ T, scanOf s = (T, 0, 0) := by
    refine ⟨(scanOf s).1, ?_⟩
    have h1 : scanOf s = ((scanOf s).1, 0, (scanOf s).2.2) := by rw [← hc]
    have h2 := scanOf_zero h1
    rw [h2] at h1
    exact h1
   obtain ⟨hs4, hT6, hST⟩ := scanOf_stands hT
   have HRX : Hid (readL s = match labelP T s.size 0 with
    | .ok x k => if k < T.length then ([], 1, tkAt T s.size k) else (x, 0, 0)
    | .bad c a => ([], c, a)) := by unfold Hid readL; rw [if_pos hc, hT]; try rfl
   rw [hT] at HSC
   have HST := Hd hST
   have HT6 := Hd hT6
   have HS4 := Hd hs4
   clear hc hT hs4 hT6 hST
   have HSC2 : Hid (Calls Tryz.prog 59 #[.string s] W2 fun e w' => ∃ y, e = .returned (.tuple #[y, .agg #[.int .i64 0, .int .i64 0]]) ∧ Toks w' T y ∧ Below W2.heap.size W2 w') := HSC.out
   clear HSC
   go_enter_defers Tryz.func62, Tryz.ntmps62
   go_wp2_with (fail)
   clear eW
   refine HSC2.out.mono ?_
   rintro e w3 ⟨y, rfl, hy, hb3⟩
   have HE3 := Hd (HE2.out.below hb3)
   have HF3 := Hd (HF2.out.below hb3)
   have HB3 := Hd (HB2.out.trans (hb3.mono HB2.out.size))
   have HCL := Hd (cloneTok_calls T y w3 hy HT6.out)
   have r0 := HF3.out.cell 0
   have r1 := HF3.out.cell 1
   simp only [List.getElem?_cons_zero, List.getElem?_cons_succ] at r0 r1
   have k0 := HF3.out.fz 0
   have k1 := HF3.out.fz 1
   have s7 := HF3.out.same (i := 0) rfl
   have s8 := HF3.out.same (i := 1) rfl
   obtain ⟨_, _, cy, py, rfl, _⟩ := hy.cells
   clear hb3 hy HSC2
   go_wp2_with (fail)
   refine HCL.out.mono ?_
   rintro e w5 ⟨v5, rfl, ht5, hb5⟩
   obtain ⟨_, _, c5, p5, rfl, _⟩ := ht5.cells
   have HTK := Hd ht5
   have HB35 : Hid (w3.heap.size ≤ w5.heap.size ∧ w.heap.size + 1 < w3.heap.size) := ⟨hb5.size, HF3.out.lt⟩
   replace ht5 := ht5.stays (hide_keeps _ _)
   obtain ⟨W6, eW6⟩ : ∃ W6, w5.alloc (.cells #[.slice p5 T.length c5, .int .i64 0, .int .i64 s.size, .int .i64 0, .int .i64 0] 194) = W6 := ⟨_, rfl⟩
   have hb6 : Below w5.heap.size w5 W6 := by rw [← eW6]; exact (Below.refl _ _).alloc (Nat.le_refl _) _
   have hB6 : Blk W6 w5.heap.size [.slice p5 T.length c5, .int .i64 0, .int .i64 s.size, .int .i64 0, .int .i64 0] 194 := by rw [← eW6]; exact Blk.new _ _ _
   have hb56 := hb5.trans (hb6.mono hb5.size)
   have HRD : Hid (Rdr W6 w5.heap.size T s.size (.slice p5 T.length c5) 0 0 0) := ⟨hB6, ht5.stays (mask_new (Nat.le_refl _) hb6), tab_mask (HTB.out.below (HB3.out.trans (hb5.mono HB3.out.size))) (Nat.le_refl _) hb6⟩
   have HW65 : Hid (w5.heap.size ≤ W6.heap.size) := hb6.size
   have HW6B : Hid (∀ b, b < w5.heap.size → W6.heap[b]? = w5.heap[b]?) := fun b h => hb6.block b h
   have HB6 := Hd (HB3.out.trans (hb56.mono HB3.out.size))
   have HE6 := Hd (HE3.out.below hb56)
   have HF6 := Hd (HF3.out.below hb56)
   have HN5 : Hid (w.heap.size + 1 < w5.heap.size) := by have h1 := HF3.out.lt; have h2 := hb5.size; unfold Hid; omega
   have HXC := Hd (label_calls HRD.out)
   clear hb5 hb6 hb56 hB6 ht5 r0 r1 k0 k1 s7 s8 HCL
   cases hr : labelP T s.size 0 with
   | bad c a =>
     rw [hr] at HXC HRX
     have HRY : Hid (readL s = ([], c, a)) := HRX.out
     clear hr HRX
     go_wp2_with (fail)
     refine HXC.out.mono ?_
     rintro e w7 ⟨ha, rfl, hlf⟩
     have HB7 := Hd (below_of_aside HB6.out (Nat.le_of_lt (Nat.lt_trans (Nat.lt_succ_self _) HN5.out)) ha)
     have HE7 := Hd (HE6.out.aside ha (by have h1 := HN5.out; omega))
     have HF7 := Hd (HF6.out.aside ha (by have h1 := HN5.out; omega))
     clear ha hlf eW6
     go_wp2_with (fail)
     rw [HRY.out]
     exact readsL_bad rfl rfl HB7.out HE7.out HF7.out
   | ok x k =>
     rw [hr] at HXC HRX
     have HRY : Hid (readL s = if k < T.length then ([], 1, tkAt T s.size k) else (x, 0, 0)) := HRX.out
     clear hr HRX
     go_wp2_with (fail)
     refine HXC.out.mono ?_
     rintro e w7 ⟨ha, v7, rfl, hr7, hx7⟩
     have HB7 := Hd (below_of_aside HB6.out (Nat.le_of_lt (Nat.lt_trans (Nat.lt_succ_self _) HN5.out)) ha)
     have hE7 := HE6.out.aside ha (by have h1 := HN5.out; omega)
     have HE7 := Hd hE7
     have HF7 := Hd (HF6.out.aside ha (by have h1 := HN5.out; omega))
     have HX7 := Hd hx7
     have HA7 := Hd ha
     have HR7 := Hd hr7
     obtain ⟨pl, cl, rfl, _⟩ := hx7
     have q0 := hE7.cell 0
     simp only [List.getElem?_cons_zero] at q0
     have f0 := hE7.fz 0
     obtain ⟨W8, eW8⟩ : ∃ W8, w7.setCell ⟨w.heap.size, 0, none⟩ (.slice pl x.length cl) = W8 := ⟨_, rfl⟩
     have hA8 : Aside1 w.heap.size w7 W8 := by rw [← eW8]; exact aside_set _ _
     have HB8 : Hid (Blk W8 w.heap.size [.slice pl x.length cl] 23) := by rw [← eW8]; exact hE7.set 0 _
     have hq8 : ∀ b, b ≠ w.heap.size → W8.heap[b]? = w7.heap[b]? := fun b hb => by rw [← eW8]; exact Below.heap_setCell _ _ _ _ (by simpa using hb)
     have HC8 : Hid (Blk W8 (w.heap.size + 1) [.int .i64 0, .int .i64 0] 35) := (hq8 _ (by omega)).trans HF7.out
     have HW8 : Hid (Below w.heap.size w W8) := ⟨hA8.os.trans HB7.out.os, hA8.tape.trans HB7.out.tape, hA8.output.trans HB7.out.output, Nat.le_trans HB7.out.size hA8.size, fun i hi => (hq8 i (by omega)).trans (HB7.out.block i hi)⟩
     have HX8 : Hid (Lbl (since w.heap.size W8) x (.slice pl x.length cl)) := by
      have h1 := (Lbl.stays (show Keeps (since W6.heap.size w7) (since W6.heap.size W8) from keeps_hide hA8.size fun b hb hp => ⟨hp, hq8 b (by have h1 := HN5.out; have h2 := HRD.out.lt; simp at hp; omega)⟩) HX7.out)
      exact Lbl.stays (since_mono _ (by have h2 := HN5.out; have h3 := HRD.out.lt; omega)) h1
     have HRD8 : Hid (Rdr W8 w5.heap.size T s.size (.slice p5 T.length c5) k 0 0) := ⟨(hq8 _ (by have h1 := HN5.out; omega)).trans hr7.blk,
      HTK.out.stays (keep8 (Nat.le_refl _) (by have h1 := HW65.out; have h2 := ha.size; have h3 := hA8.size; omega) fun b hb hb2 => (hq8 b (by have h1 := HB35.out; omega)).trans ((ha.block b (by have h1 := HW65.out; omega) (fun e => by simp at e; omega)).trans (HW6B.out b hb2))),
      tab_mask HTB.out (by have h1 := HN5.out; omega) HW8.out⟩
     have c1 := HRD8.out.c1
     have c0 := HRD8.out.c0
     clear ha hr7 hE7 hA8 hq8 HXC eW6
     go_wp2_with (fail)
     clear eW8 q0 f0
     by_cases hk : k < T.length
     · have hki : (k : Int) < (T.length : Int) := by omega
       rw [if_pos hk] at HRY
       clear hk
       go_quiet (fail)
       obtain ⟨W9, e9⟩ : ∃ W9, W8.drewN nq = W9 := ⟨_, rfl⟩
       have hb9 : Below W8.heap.size W8 W9 := by rw [← e9]; exact below_drewN (Below.refl _ _) _
       have HFA := Hd (fail_calls (HRD8.out.below hb9) 1)
       have HB9 := Hd hb9
       rw [e9]
       clear e9 hb9 c0 c1
       go_wp2_with (fail)
       refine HFA.out.mono ?_
       rintro e w10 ⟨rfl, hb10⟩
       have hb810 := HB9.out.trans (hb10.mono HB9.out.size)
       have HZ1 := Hd (HW8.out.trans (hb810.mono HW8.out.size))
       have HZ2 := Hd (HB8.out.below hb810)
       have HZ3 := Hd (HC8.out.below hb810)
       clear hb10 hb810
       go_wp2_with (fail)
       rw [HRY.out]
       exact readsL_bad rfl rfl HZ1.out HZ2.out HZ3.out
     · have hki : ¬ (k : Int) < (T.length : Int) := by omega
       rw [if_neg hk] at HRY
       clear hk
       go_quiet (fail)
       obtain ⟨W9, e9⟩ : ∃ W9, W8.drewN nq = W9 := ⟨_, rfl⟩
       have hb9 : Below W8.heap.size W8 W9 := by rw [← e9]; exact below_drewN (Below.refl _ _) _
       have HZ1 := Hd (HW8.out.trans (hb9.mono HW8.out.size))
       have HZ2 := Hd (HB8.out.below hb9)
       have HZ3 := Hd (HC8.out.below hb9)
       have HZX := Hd (Lbl.stays (since_below hb9) HX8.out)
       rw [e9]
       clear e9 hb9 c0 c1
       have q0 := HZ2.out.cell 0
       simp only [List.getElem?_cons_zero] at q0
       have f0 := HZ2.out.fz 0
       have r0 := HZ3.out.cell 0
       have r1 := HZ3.out.cell 1
       simp only [List.getElem?_cons_zero, List.getElem?_cons_succ] at r0 r1
       have k0 := HZ3.out.fz 0
       have k1 := HZ3.out.fz 1
       have s0 := HZ2.out.same (i := 0) rfl
       have s7 := HZ3.out.same (i := 0) rfl
       have s8 := HZ3.out.same (i := 1) rfl
       have HK := Hd (show (W9.drew.cell? ⟨w.heap.size, 0, none⟩ = some (.slice pl x.length cl) ∧ W9.drew.cell? ⟨w.heap.size + 1, 0, none⟩ = some (.int .i64 0) ∧ W9.drew.cell? ⟨w.heap.size + 1, 1, none⟩ = some (.int .i64 0)) from ⟨q0, r0, r1⟩)
       go_wp2_with (fail)
       go_region_held3 (fun w' => w'.cell? ⟨w.heap.size, 0, none⟩ = some (.slice pl x.length cl) ∧ w'.cell? ⟨w.heap.size + 1, 0, none⟩ = some (.int .i64 0) ∧ w'.cell? ⟨w.heap.size + 1, 1, none⟩ = some (.int .i64 0))
        (with_reducible exact HK.out)
        (fail)
       all_goals go_wp2_with (fail)
       all_goals rw [HRY.out]
       all_goals exact readsL_ok rfl rfl HZ1.out.drew HZ2.out HZ3.out (Lbl.stays (since_below (below_drew1 _)) HZX.out)
 · have HRX : Hid (readL s = ([], (scanOf s).2.1, (scanOf s).2.2)) := by unfold Hid readL; rw [if_neg hc]
   have hc1 : ((scanOf s).2.1 == 0) = false := beq_false_of_ne hc
   have hc2 : ((scanOf s).2.1 != 0) = true := by simp [hc]
   clear hc
   generalize (scanOf s).2.1 = c at *
   generalize (scanOf s).2.2 = a at *
   go_enter_defers Tryz.func62, Tryz.ntmps62
   go_wp2_with (fail)
   clear eW
   refine HSC.out.mono ?_
   rintro e w3 ⟨y, rfl, hy, hb3⟩
   have hF3 := HF2.out.below hb3
   have r0 := hF3.cell 0
   have r1 := hF3.cell 1
   simp only [List.getElem?_cons_zero, List.getElem?_cons_succ] at r0 r1
   have k0 := hF3.fz 0
   have k1 := hF3.fz 1
   obtain ⟨W4, eW4⟩ : ∃ W4, (w3.setCell ⟨w.heap.size + 1, 0, none⟩ (.int .i64 c)).setCell ⟨w.heap.size + 1, 1, none⟩ (.int .i64 a) = W4 := ⟨_, rfl⟩
   have HB4 : Hid (Blk W4 w.heap.size [.slice none 0 0] 23) := by rw [← eW4]; exact ((HE2.out.below hb3).other (by omega) _ _).other (by omega) _ _
   have HB5 : Hid (Blk W4 (w.heap.size + 1) [.int .i64 c, .int .i64 a] 35) := by rw [← eW4]; exact (hF3.set 0 (.int .i64 c)).set 1 (.int .i64 a)
   have HW4 : Hid (Below w.heap.size w W4) := by rw [← eW4]; exact ((HB2.out.trans (hb3.mono HB2.out.size)).setCell (show w.heap.size ≤ w.heap.size + 1 by omega) _).setCell (show w.heap.size ≤ w.heap.size + 1 by omega) _
   obtain ⟨_, _, cy, py, rfl, _⟩ := hy.cells
   have u0 := HB5.out.cell 0
   simp only [List.getElem?_cons_zero] at u0
   clear hb3 hy hF3
   go_wp2_with (fail)
   clear eW4 r0 r1 k0 k1 u0
   have q0 := HB4.out.cell 0
   simp only [List.getElem?_cons_zero] at q0
   have f0 := HB4.out.fz 0
   have r0 := HB5.out.cell 0
   have r1 := HB5.out.cell 1
   simp only [List.getElem?_cons_zero, List.getElem?_cons_succ] at r0 r1
   have k0 := HB5.out.fz 0
   have k1 := HB5.out.fz 1
   have s0 := HB4.out.same (i := 0) rfl
   have s7 := HB5.out.same (i := 0) rfl
   have s8 := HB5.out.same (i := 1) rfl
   have HK := Hd (show (W4.drew.cell? ⟨w.heap.size, 0, none⟩ = some (.slice none 0 0) ∧ W4.drew.cell? ⟨w.heap.size + 1, 0, none⟩ = some (.int .i64 c) ∧ W4.drew.cell? ⟨w.heap.size + 1, 1, none⟩ = some (.int .i64 a)) from ⟨q0, r0, r1⟩)
   go_wp2_with (fail)
   go_region_held3 (fun w' => w'.cell? ⟨w.heap.size, 0, none⟩ = some (.slice none 0 0) ∧ w'.cell? ⟨w.heap.size + 1, 0, none⟩ = some (.int .i64 c) ∧ w'.cell? ⟨w.heap.size + 1, 1, none⟩ = some (.int .i64 a))
    (with_reducible exact HK.out)
    (fail)
   all_goals go_wp2_with (fail)
   all_goals rw [HRX.out]
   all_goals exact readsL_none rfl rfl HW4.out.drew HB4.out HB5.out (lbl_nil _)
theorem labelTop_calls (s : Txt) (w : World) (ht : Tab w) :
 Calls Tryz.prog 18 #[.string s] w (ReadsL w (readL s)) := by
 obtain ⟨W2, eW⟩ : ∃ W2, w.alloc (.cells #[.int .i64 0, .int .i64 0] 35) = W2 := ⟨_, rfl⟩
 obtain ⟨z2, hb2, m0⟩ := boxes1 eW
 have hC2 : Blk W2 w.heap.size [.int .i64 0, .int .i64 0] 35 := by rw [← eW]; exact Blk.new _ _ _
 have HB2 := Hd hb2
 have HF2 := Hd hC2
 have HW2 : Hid (W2.heap.size = w.heap.size + 1) := z2
 have HRD := Hd (readLP_calls s W2 (ht.below hb2))
 clear hb2 m0 hC2 ht z2
 generalize readL s = r at *
 obtain ⟨l, c, a⟩ := r
 go_enter Tryz.func18, Tryz.ntmps18
 go_wp2_with (fail)
 clear eW
 refine HRD.out.mono ?_
 rintro e w3 ⟨v, rfl, hl3, hb3⟩
 have HL3 := Hd hl3
 obtain ⟨pl, cl, rfl, _⟩ := hl3
 have hF3 := HF2.out.below hb3
 have HB3 := Hd (HB2.out.trans (hb3.mono HB2.out.size))
 have j0 := hF3.cell 0
 have j1 := hF3.cell 1
 simp only [List.getElem?_cons_zero, List.getElem?_cons_succ] at j0 j1
 have l0 := hF3.fz 0
 have l1 := hF3.fz 1
 have hFe := (hF3.set 0 (.int .i64 c)).set 1 (.int .i64 a)
 have HG : Hid (((w3.setCell ⟨w.heap.size, 0, none⟩ (.int .i64 c)).setCell ⟨w.heap.size, 1, none⟩ (.int .i64 a)).cell? ⟨w.heap.size, 0, none⟩ = some (.int .i64 c) ∧ ((w3.setCell ⟨w.heap.size, 0, none⟩ (.int .i64 c)).setCell ⟨w.heap.size, 1, none⟩ (.int .i64 a)).cell? ⟨w.heap.size, 1, none⟩ = some (.int .i64 a) ∧ Below w.heap.size w ((w3.setCell ⟨w.heap.size, 0, none⟩ (.int .i64 c)).setCell ⟨w.heap.size, 1, none⟩ (.int .i64 a)) ∧ Lbl (since w.heap.size ((w3.setCell ⟨w.heap.size, 0, none⟩ (.int .i64 c)).setCell ⟨w.heap.size, 1, none⟩ (.int .i64 a))) l (.slice pl l.length cl)) :=
  ⟨by simpa using hFe.cell 0, by simpa using hFe.cell 1, (HB3.out.setCell (Nat.le_refl _) _).setCell (Nat.le_refl _) _, (Lbl.stays ((since_set _ _ _ (by have := HW2.out; omega)).trans (since_set _ _ _ (by have := HW2.out; omega))) HL3.out).stays (since_mono _ (by have := HW2.out; omega))⟩
 clear hFe hF3 hb3
 go_wp2_with (fail)
 exact bodyPost_ret (v := .tuple #[.slice pl l.length cl, .agg #[.int .i64 c, .int .i64 a]]) (by simp [results, Tryz.results18, go_sem, HG.out.1, HG.out.2.1]) rfl ⟨_, rfl, HG.out.2.2.2, HG.out.2.2.1⟩
end
section
open Go.RowKit Go.Maps
theorem one_of {α : Type} {l : List α} (h : l.length = 1) : ∃ y, l = [y] := by
 match l, h with
 | [y], _ => exact ⟨y, rfl⟩
theorem two_of {α : Type} {l : List α} (h : l.length = 2) : ∃ y z, l = [y, z] := by
 match l, h with
 | [y, z], _ => exact ⟨y, z, rfl⟩
theorem text_step {x : Ex} {d : Int} (hf : formB x d = true) {W : World} (ht : Tab W) (hpw : Pow W) (hsz : ∀ y ∈ x.kids, ∀ t, (textP y t).size ≤ 413867158356) (hk : ∀ y ∈ x.kids, ∀ t, TextC W y t) (v : Value) (hx : ExIs W x v) (t : Int) :
 Calls Tryz.prog 57 #[v, .int .i64 t] W fun e w' => e = .returned (.string (textP x t)) ∧ Below W.heap.size W w' := by
 have hw := form_ways hf
 obtain ⟨kind, at_, num, ty, name, l, a⟩ := x
 obtain ⟨vl, va, rfl, hl, ha⟩ := hx
 obtain ⟨pl, cl, rfl, hl3⟩ := hl
 obtain ⟨pa, ca, rfl, ha3⟩ := ha
 have hl : Lbl W l (.slice pl l.length cl) := ⟨pl, cl, rfl, hl3⟩
 have ha : Exs W a (.slice pa a.length ca) := ⟨pa, ca, rfl, ha3⟩
 simp only [Ex.kind, Ex.kids, Ex.name, Ex.lab, Ex.num, Ex.ty] at hw hsz hk ⊢
 rcases hw with ⟨rfl, h1, rfl, h2, ⟨rfl, h3, h4⟩ | ⟨rfl, rfl | rfl⟩⟩ | ⟨rfl, h1, h2, h3, h4, h5⟩ | ⟨rfl, ⟨h1, h5⟩ | ⟨h1, h5⟩, h2, h3, h4⟩ | ⟨rfl, h1, h2, h3, h4, h5⟩ | ⟨rfl, h1, h2, h3, h4, h5⟩
 · exact text_num at_ num t _ l a pl cl pa ca W h3 h4 hpw
 · exact text_false at_ t _ l a pl cl pa ca W
 · exact text_true at_ t _ l a pl cl pa ca W
 · exact text_var at_ num ty t _ l a pl cl pa ca W
 · obtain ⟨y, rfl⟩ := one_of h1
   exact text_one at_ num ty t name l pl cl pa ca W y ha (by rcases h5 with rfl | rfl <;> decide) (hsz y (by simp) 6) (hk y (by simp) 6)
 · obtain ⟨y, z, rfl⟩ := two_of h1
   have h2s := levelT_size h5
   by_cases hq : levelT name < t
   · exact text_two_in at_ num ty t name l pl cl pa ca W y z ht hq h5 h2s ha (hsz y (by simp) _) (hsz z (by simp) _) (hk y (by simp) _) (hk z (by simp) _)
   · exact text_two at_ num ty t name l pl cl pa ca W y z ht hq h5 h2s ha (hsz y (by simp) _) (hsz z (by simp) _) (hk y (by simp) _) (hk z (by simp) _)
 · exact text_call at_ num ty t name l a pl cl pa ca W ha h2 (isName_size h1) (fun y hy => hsz y hy 0) (fun y hy => hk y hy 0)
 · obtain ⟨y, rfl⟩ := one_of h1
   exact text_rel at_ num ty t name l pl cl pa ca W y hl ha (hsz y (by simp) 0) (hk y (by simp) 0)
theorem text_calls : ∀ (n : Nat), n ≤ 12 → ∀ (x : Ex), Fm n x → ∀ (w : World) (t : Int), Tab w → Pow w → TextC w x t := by
 intro n
 induction n with
 | zero =>
   intro hn x hf w t ht hp W v hb hx
   exact text_step hf.form (ht.below hb) (hp.below hb) (fun y hy => by rw [hf.none] at hy; cases hy) (fun y hy => by rw [hf.none] at hy; cases hy) v hx t
 | succ n ih =>
   intro hn x hf w t ht hp W v hb hx
   exact text_step hf.form (ht.below hb) (hp.below hb) (fun y hy t => Nat.le_trans (text_size n y t (hf.kids y hy)) (lim_le (by omega))) (fun y hy t => ih (by omega) y (hf.kids y hy) W t (ht.below hb) (hp.below hb)) v hx t
def textE (x : Ex) : Int := if formedS x then 0 else 4
def textS (x : Ex) : Txt := if formedS x then textP x 0 else ⟨#[]⟩
theorem textTop_calls (x : Ex) (v : Value) (w : World) (hx : ExIs w x v) (ht : Tab w) (hp : Pow w) : Calls Tryz.prog 13 #[v] w fun e w' => e = .returned (.tuple #[.string (textS x), .int .i64 (textE x)]) ∧ Below w.heap.size w w' := by
 have hx0 := hx
 obtain ⟨vl, va, rfl, hl, ha⟩ := hx
 obtain ⟨pl, cl, rfl, _⟩ := hl
 obtain ⟨pa, ca, rfl, _⟩ := ha
 obtain ⟨W1, eW⟩ : ∃ W1, w.alloc (.cells #[.int .i64 x.kind, .int .i64 x.at_, .int .i64 x.num, .int .i64 x.ty, .string x.name, .slice pl x.lab.length cl, .slice pa x.kids.length ca] 26) = W1 := ⟨_, rfl⟩
 have hb1 : Below w.heap.size w W1 := by rw [← eW]; exact (Below.refl _ _).alloc (Nat.le_refl _) _
 have hB1 : Blk W1 w.heap.size (exC x (.slice pl x.lab.length cl) (.slice pa x.kids.length ca)) 26 := by rw [← eW]; exact Blk.new _ _ _
 obtain ⟨q0, q1, q2, q3, q4, q5, q6⟩ := hB1.cells7
 have HF := Hd (formed_calls x _ W1 (hx0.stays (keeps_of_below hb1)) (ht.below hb1))
 have HB1 := Hd hb1
 have HBK := Hd hB1
 cases hf : formedS x with
 | true =>
   have HT : Hid (∀ W, Below W1.heap.size W1 W → Calls Tryz.prog 57 #[.agg #[.int .i64 x.kind, .int .i64 x.at_, .int .i64 x.num, .int .i64 x.ty, .string x.name, .slice pl x.lab.length cl, .slice pa x.kids.length ca], .int .i64 0] W fun e w' => e = .returned (.string (textP x 0)) ∧ Below W.heap.size W w') := fun W hb =>
    text_calls 12 (Nat.le_refl _) x hf w 0 ht hp W _ (hb1.trans (hb.mono hb1.size)) (hx0.stays (keeps_of_below (hb1.trans (hb.mono hb1.size))))
   have HR : Hid (textS x = textP x 0 ∧ textE x = 0) := by unfold Hid textS textE; rw [hf]; exact ⟨rfl, rfl⟩
   rw [hf] at HF
   generalize textP x 0 = J at *
   clear hx0 hB1 hb1 ht hp hf
   go_enter Tryz.func13, Tryz.ntmps13
   go_wp2_with (fail)
   refine HF.out.mono ?_
   rintro e w2 ⟨rfl, hb2⟩
   have HT2 := Hd (HT.out w2 hb2)
   clear q0 q1 q2 q3 q4 q5 q6
   obtain ⟨q0, q1, q2, q3, q4, q5, q6⟩ := (HBK.out.below hb2).cells7
   have HB2 := Hd hb2
   clear hb2
   go_wp2_with (fail)
   refine HT2.out.mono ?_
   rintro e w3 ⟨rfl, hb3⟩
   go_wp2_with (fail)
   go_ret2
   exact ⟨by rw [HR.out.1, HR.out.2]; rfl, HB1.out.trans ((HB2.out.trans (hb3.mono HB2.out.size)).mono HB1.out.size)⟩
 | false =>
   have HR : Hid (textS x = ⟨#[]⟩ ∧ textE x = 4) := by unfold Hid textS textE; rw [hf]; exact ⟨rfl, rfl⟩
   rw [hf] at HF
   clear hx0 hB1 hb1 ht hp hf
   go_enter Tryz.func13, Tryz.ntmps13
   go_wp2_with (fail)
   refine HF.out.mono ?_
   rintro e w2 ⟨rfl, hb2⟩
   go_wp2_with (fail)
   go_ret2
   exact ⟨by rw [HR.out.1, HR.out.2]; rfl, HB1.out.trans (hb2.mono HB1.out.size)⟩
end
end Go.Proofs.YtminbehofnnhmaaGreatDoor
