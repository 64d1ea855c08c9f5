/- Texts of the proof that ParseBrackets holds, part 4; no conditions. -/
import Derived.Test.YtminbehofnnhmaaGreatDoorPB03
import Derived.Test.YtminbehofnnhmaaGreatDoorPB02
import Derived.Lib.Fields
namespace Go.Proofs.YtminbehofnnhmaaGreatDoor
set_option linter.unusedVariables false
set_option linter.unusedSimpArgs false
set_option maxHeartbeats 8000000
set_option maxRecDepth 100000
section
open Go.RowKit
theorem tw_more {p : UInt8 → Bool} {r : List UInt8} {c : UInt8} {u : List UInt8} (hc : p c = false) : (r ++ c :: u).takeWhile p = r.takeWhile p := by
 induction r with
 | nil => rw [List.nil_append, List.takeWhile_cons, if_neg (by rw [hc]; simp)]; rfl
 | cons x r ih =>
   rw [List.cons_append, List.takeWhile_cons, List.takeWhile_cons, ih]
theorem find_same {α : Type} {p q : α → Bool} : ∀ {l : List α}, (∀ x ∈ l, p x = q x) → l.find? p = l.find? q
 | [], _ => rfl
 | x :: l, h => by
   rw [List.find?_cons, List.find?_cons, h x List.mem_cons_self, find_same fun y hy => h y (List.mem_cons_of_mem _ hy)]
theorem tw_all {p : UInt8 → Bool} {r : List UInt8} (h : ∀ b ∈ r, p b = true) : r.takeWhile p = r := by
 induction r with
 | nil => rfl
 | cons x r ih => rw [List.takeWhile_cons, if_pos (h x List.mem_cons_self), ih fun b hb => h b (List.mem_cons_of_mem _ hb)]
theorem rest_len {s : Txt} {a : Nat} : (restOf s a).length = s.size - a := by unfold restOf; rw [List.length_drop, bytesOf_len]
def fits (s : Txt) (a : Nat) : Step → Prop
 | .skip n => 0 < n ∧ a + n ≤ s.size
 | .tok _ t => 0 < t.size ∧ a + t.size ≤ s.size
 | .bad c => c ≠ 0
theorem run_fits {q : Int → Bool} {s : Txt} {a : Nat} (h : a < s.size) (hq : q (s[a].toNat) = true) : a < runEnd q s a ∧ runEnd q s a ≤ s.size := by
 refine ⟨?_, runEnd_le (Nat.le_of_lt h)⟩
 rw [runEnd_step h hq]
 exact runEnd_ge _ _ _
theorem step_fits {s : Txt} {a : Nat} (h : a < s.size) : fits s a (stepOf s a (s[a].toNat)) := by
 unfold stepOf
 split
 · exact ⟨by omega, by omega⟩
 · split
   · exact ⟨by omega, by omega⟩
   · split
     · exact ⟨by omega, by omega⟩
     · split
       · rename_i h35
         obtain ⟨h1, h2⟩ := run_fits (q := noteB) h (by unfold noteB; have : (s[a].toNat : Int) = 35 := by simpa using h35
                                                        rw [this]; rfl)
         exact ⟨by omega, by omega⟩
       · split
         · rename_i hl
           obtain ⟨h1, h2⟩ := run_fits (q := wordB) h (by unfold wordB; rw [hl]; rfl)
           have ht : (s.extract a (runEnd wordB s a)).size = runEnd wordB s a - a := by rw [ByteArray.size_extract]; omega
           unfold wordOf
           split
           · exact ⟨by omega, by omega⟩
           · split
             · exact ⟨by omega, by omega⟩
             · exact (by decide : (2 : Int) ≠ 0)
         · split
           · rename_i hd
             obtain ⟨h1, h2⟩ := run_fits (q := digitB) h hd
             have ht : (s.extract a (runEnd digitB s a)).size = runEnd digitB s a - a := by rw [ByteArray.size_extract]; omega
             unfold numOf
             split
             · exact (by decide : (3 : Int) ≠ 0)
             · split
               · exact (by decide : (3 : Int) ≠ 0)
               · exact ⟨by omega, by omega⟩
           · unfold signOf
             split
             · rename_i x hx
               obtain ⟨h1, h2⟩ := sign_fits (Nat.le_of_lt h) (List.find?_some hx) (List.mem_of_find?_eq_some hx)
               exact ⟨by omega, by omega⟩
             · exact (by decide : (1 : Int) ≠ 0)
end
section
open Go.RowKit
def runB (q : Int → Bool) (r : List UInt8) : List UInt8 := r.takeWhile fun b => q b.toNat
def signsFind (r : List UInt8) : Step := match signsL.find? (fun x => Lib.hasPrefix r x.data.toList) with
 | some x => .tok 4 x
 | none => .bad 1
def stepB : List UInt8 → Step
 | [] => .skip 0
 | c :: r =>
   if (c.toNat : Int) == 32 then .skip 1 else if (c.toNat : Int) == 9 then .skip 1 else if (c.toNat : Int) == 10 then .skip 1
   else if (c.toNat : Int) == 35 then .skip (runB noteB (c :: r)).length
   else if letterB c.toNat then wordOf (txtOf (runB wordB (c :: r)))
   else if digitB c.toNat then numOf c.toNat (txtOf (runB digitB (c :: r)))
   else signsFind (c :: r)
theorem run_len {q : Int → Bool} {s : Txt} {a : Nat} : runEnd q s a - a = (runB q (restOf s a)).length := by unfold runEnd runB; omega
theorem tw_take {p : UInt8 → Bool} : ∀ r : List UInt8, r.take (r.takeWhile p).length = r.takeWhile p
 | [] => rfl
 | x :: r => by
   rw [List.takeWhile_cons]
   split
   · rw [List.length_cons, List.take_succ_cons, tw_take r]
   · rfl
theorem run_txt {q : Int → Bool} {s : Txt} {a : Nat} : s.extract a (runEnd q s a) = txtOf (runB q (restOf s a)) := by
 apply txt_ext
 rw [bytesOf_extract, bytesOf_txtOf, run_len]
 unfold runB
 exact tw_take _
theorem stepB_eq {r u : List UInt8} {c : UInt8} (h : r = c :: u) : stepB r =
 if (c.toNat : Int) == 32 then .skip 1 else if (c.toNat : Int) == 9 then .skip 1 else if (c.toNat : Int) == 10 then .skip 1
 else if (c.toNat : Int) == 35 then .skip (runB noteB r).length
 else if letterB c.toNat then wordOf (txtOf (runB wordB r))
 else if digitB c.toNat then numOf c.toNat (txtOf (runB digitB r))
 else signsFind r := by subst h; rfl
theorem step_rest {s : Txt} {a : Nat} (h : a < s.size) : stepOf s a (s[a].toNat) = stepB (restOf s a) := by
 rw [stepB_eq (rest_cons h)]
 unfold stepOf
 rw [run_len, run_txt, run_txt]
 rfl
theorem tw_mem {p : UInt8 → Bool} : ∀ {r : List UInt8} {b : UInt8}, b ∈ r.takeWhile p → p b = true
 | [], _, h => by cases h
 | x :: r, b, h => by
   rw [List.takeWhile_cons] at h
   split at h
   · rename_i hx
     rcases List.mem_cons.1 h with rfl | h
     · exact hx
     · exact tw_mem h
   · cases h
theorem wordOf_tok {t : Txt} {k : Int} {x : Txt} (h : wordOf t = .tok k x) : x = t := by
 unfold wordOf at h
 split at h
 · injection h with _ e; exact e.symm
 · split at h
   · injection h with _ e; exact e.symm
   · cases h
theorem numOf_tok {c : Int} {t : Txt} {k : Int} {x : Txt} (h : numOf c t = .tok k x) : x = t := by
 unfold numOf at h
 split at h
 · cases h
 · split at h
   · cases h
   · injection h with _ e; exact e.symm
theorem hasPrefix_is (r x : List UInt8) : Lib.hasPrefix r x = x.isPrefixOf r := rfl
theorem signsFind_tok {r : List UInt8} {k : Int} {x : Txt} (h : signsFind r = .tok k x) : k = 4 ∧ x ∈ signsL ∧ x.data.toList.isPrefixOf r = true ∧ signsL.find? (fun x => Lib.hasPrefix r x.data.toList) = some x := by
 unfold signsFind at h
 split at h
 · rename_i y hy
   injection h with e1 e2
   subst e2
   exact ⟨e1.symm, List.mem_of_find?_eq_some hy, by have := List.find?_some hy; rw [hasPrefix_is] at this; exact this, hy⟩
 · cases h
theorem txt_prefix {q : Int → Bool} {r : List UInt8} : (bytesOf (txtOf (runB q r))).isPrefixOf r = true := by
 rw [bytesOf_txtOf, List.isPrefixOf_iff_prefix]
 exact List.takeWhile_prefix _
def StepWays (r : List UInt8) (c : UInt8) (k : Int) (t : Txt) : Prop :=
 (letterB c.toNat = true ∧ wordOf (txtOf (runB wordB r)) = .tok k t) ∨ (letterB c.toNat = false ∧ digitB c.toNat = true ∧ numOf c.toNat (txtOf (runB digitB r)) = .tok k t) ∨
  (letterB c.toNat = false ∧ digitB c.toNat = false ∧ signsFind r = .tok k t)
theorem step_ways {r u : List UInt8} {c : UInt8} (e : r = c :: u) {k : Int} {t : Txt} : stepB r = .tok k t ↔ (((c.toNat : Int) == 32) = false ∧ ((c.toNat : Int) == 9) = false ∧ ((c.toNat : Int) == 10) = false ∧ ((c.toNat : Int) == 35) = false) ∧ StepWays r c k t := by
 rw [stepB_eq e]
 unfold StepWays
 cases h1 : ((c.toNat : Int) == 32) with
 | true => simp
 | false =>
   cases h2 : ((c.toNat : Int) == 9) with
   | true => simp
   | false =>
     cases h3 : ((c.toNat : Int) == 10) with
     | true => simp
     | false =>
       cases h4 : ((c.toNat : Int) == 35) with
       | true => simp
       | false =>
         cases h5 : letterB c.toNat with
         | true => simp
         | false =>
           cases h6 : digitB c.toNat with
           | true => simp
           | false => simp
theorem step_prefix {r : List UInt8} {k : Int} {t : Txt} (h : stepB r = .tok k t) : (bytesOf t).isPrefixOf r = true := by
 cases r with
 | nil => cases h
 | cons c r =>
   rcases ((step_ways rfl).1 h).2 with ⟨_, h⟩ | ⟨_, _, h⟩ | ⟨_, _, h⟩
   · rw [wordOf_tok h]; exact txt_prefix
   · rw [numOf_tok h]; exact txt_prefix
   · exact (signsFind_tok h).2.2.1
theorem scanGo_zero {s : Txt} : ∀ (f a : Nat) (l L : List Tok) (q : Int), scanGo s f a l = (L, 0, q) → q = 0 := by
 intro f
 induction f with
 | zero =>
   intro a l L q h
   have e : (l, (0 : Int), (0 : Int)) = (L, 0, q) := h
   exact (congrArg (fun x : List Tok × Int × Int => x.2.2) e).symm
 | succ f ih =>
   intro a l L q h
   by_cases hlt : a < s.size
   · have hfit := step_fits hlt
     cases hs : stepOf s a (s[a].toNat) with
     | skip n => rw [scanGo_skip hlt hs] at h; exact ih _ _ _ _ h
     | bad c =>
       rw [hs] at hfit
       rw [scanGo_bad hlt hs] at h
       have e : c = 0 := congrArg (fun x : List Tok × Int × Int => x.2.1) h
       exact absurd e hfit
     | tok k t =>
       by_cases hm : l.length = 600
       · rw [scanGo_many hlt hs hm] at h
         have e : (2 : Int) = 0 := congrArg (fun x : List Tok × Int × Int => x.2.1) h
         exact absurd e (by decide)
       · rw [scanGo_tok hlt hs hm] at h; exact ih _ _ _ _ h
   · rw [scanGo_end hlt] at h
     exact (congrArg (fun x : List Tok × Int × Int => x.2.2) h).symm
theorem scanOf_zero {s : Txt} {L : List Tok} {q : Int} (h : scanOf s = (L, 0, q)) : q = 0 := by
 unfold scanOf at h
 split at h
 · have e : (2 : Int) = 0 := congrArg (fun x : List Tok × Int × Int => x.2.1) h
   exact absurd e (by decide)
 · exact scanGo_zero _ _ _ _ _ h
def Stands (s : Txt) (t : Tok) : Prop := ∃ p : Nat, p < s.size ∧ t.2.1 = p ∧ stepB (restOf s p) = .tok t.1 t.2.2 ∧ 0 < t.2.2.size ∧ p + t.2.2.size ≤ s.size
theorem scanGo_stands {s : Txt} : ∀ (f a : Nat) (l L : List Tok), scanGo s f a l = (L, 0, 0) → l.length ≤ 600 → (∀ t ∈ l, Stands s t) → L.length ≤ 600 ∧ ∀ t ∈ L, Stands s t := by
 intro f
 induction f with
 | zero =>
   intro a l L h hl hs
   have e : (l, (0 : Int), (0 : Int)) = (L, 0, 0) := h
   have e' : l = L := congrArg (fun x : List Tok × Int × Int => x.1) e
   subst e'
   exact ⟨hl, hs⟩
 | succ f ih =>
   intro a l L h hl hs
   by_cases hlt : a < s.size
   · have hfit := step_fits hlt
     cases hst : stepOf s a (s[a].toNat) with
     | skip n => rw [scanGo_skip hlt hst] at h; exact ih _ _ _ h hl hs
     | bad c =>
       rw [hst] at hfit
       rw [scanGo_bad hlt hst] at h
       have e : c = 0 := congrArg (fun x : List Tok × Int × Int => x.2.1) h
       exact absurd e hfit
     | tok k t =>
       rw [hst] at hfit
       by_cases hm : l.length = 600
       · rw [scanGo_many hlt hst hm] at h
         have e : (2 : Int) = 0 := congrArg (fun x : List Tok × Int × Int => x.2.1) h
         exact absurd e (by decide)
       · rw [scanGo_tok hlt hst hm] at h
         refine ih _ _ _ h (by rw [List.length_append]; simp; omega) fun x hx => ?_
         rcases List.mem_append.1 hx with hx | hx
         · exact hs x hx
         · simp at hx
           subst hx
           exact ⟨a, hlt, rfl, by rw [← step_rest hlt]; exact hst, hfit.1, hfit.2⟩
   · rw [scanGo_end hlt] at h
     have e' : l = L := congrArg (fun x : List Tok × Int × Int => x.1) h
     subst e'
     exact ⟨hl, hs⟩
theorem scanOf_stands {s : Txt} {L : List Tok} (h : scanOf s = (L, 0, 0)) : s.size ≤ 4000 ∧ L.length ≤ 600 ∧ ∀ t ∈ L, Stands s t := by
 unfold scanOf at h
 split at h
 · have e : (2 : Int) = 0 := congrArg (fun x : List Tok × Int × Int => x.2.1) h
   exact absurd e (by decide)
 · exact ⟨by omega, scanGo_stands _ _ _ _ h (by simp) (fun t ht => by cases ht)⟩
end
section
open Go.RowKit Go.Maps
def lvlT : Nat → Txt
 | 0 => ⟨#[124, 124]⟩ | 1 => ⟨#[38, 38]⟩ | 2 => ⟨#[61, 61, 32, 33, 61, 32, 60, 32, 60, 61, 32, 62, 32, 62, 61]⟩ | 3 => ⟨#[43, 32, 45]⟩ | _ => ⟨#[42, 32, 47, 32, 37]⟩
def lvlL : Nat → List Txt
 | 0 => [⟨#[124, 124]⟩] | 1 => [⟨#[38, 38]⟩] | 2 => [⟨#[61, 61]⟩, ⟨#[33, 61]⟩, ⟨#[60]⟩, ⟨#[60, 61]⟩, ⟨#[62]⟩, ⟨#[62, 61]⟩] | 3 => [⟨#[43]⟩, ⟨#[45]⟩] | _ => [⟨#[42]⟩, ⟨#[47]⟩, ⟨#[37]⟩]
theorem lvl_fields (k : Nat) (hk : k < 5) : (Lib.fields (lvlT k).data.toList).map (fun l => (⟨l.toArray⟩ : Txt)) = lvlL k := by
 have : k = 0 ∨ k = 1 ∨ k = 2 ∨ k = 3 ∨ k = 4 := by omega
 rcases this with rfl | rfl | rfl | rfl | rfl <;> decide +kernel
theorem lvl_ascii (k : Nat) (hk : k < 5) (j : Nat) (b : UInt8) (h : (lvlT k).data.toList[j]? = some b) : b.toNat < 128 := by
 have e : ((lvlT k).data.toList.all fun b => decide (b.toNat < 128)) = true := by
  have : k = 0 ∨ k = 1 ∨ k = 2 ∨ k = 3 ∨ k = 4 := by omega
  rcases this with rfl | rfl | rfl | rfl | rfl <;> decide +kernel
 have := List.all_eq_true.1 e b (List.mem_of_getElem? h)
 simpa using this
theorem lvl_small (k : Nat) (hk : k < 5) : (lvlT k).size < 4294967281 := by
 have : k = 0 ∨ k = 1 ∨ k = 2 ∨ k = 3 ∨ k = 4 := by omega
 rcases this with rfl | rfl | rfl | rfl | rfl <;> decide +kernel
theorem levelT_at {s : Txt} {k : Nat} (hk : k < 5) (h : has (lvlL k) s = true) (hn : ∀ j, j < k → has (lvlL j) s = false) : levelT s = (k : Int) + 1 := by
 have hs : ∀ t ∈ lvlL k, levelT t = (k : Int) + 1 := by
  have : k = 0 ∨ k = 1 ∨ k = 2 ∨ k = 3 ∨ k = 4 := by omega
  rcases this with rfl | rfl | rfl | rfl | rfl <;> (unfold lvlL; decide +kernel)
 exact hs s (has_iff.1 h)
theorem levelT_none {s : Txt} (hn : ∀ j, j < 5 → has (lvlL j) s = false) : levelT s = 0 := by
 have h : ∀ j, j < 5 → s ∉ lvlL j := fun j hj e => by
  have := hn j hj
  rw [has_iff.2 e] at this
  cases this
 have h0 := h 0 (by omega)
 have h1 := h 1 (by omega)
 have h2 := h 2 (by omega)
 have h3 := h 3 (by omega)
 have h4 := h 4 (by omega)
 simp only [lvlL] at h0 h1 h2 h3 h4
 unfold levelT
 rw [if_neg (by simpa using h0), if_neg (by simpa using h1), if_neg h2, if_neg h3, if_neg h4]
theorem lvl_calls (k : Nat) (hk : k < 5) (W : World) (ht : Tab W) : Calls Tryz.prog 240 #[.string (lvlT k)] W fun e w' => ∃ v, e = .returned v ∧ Below W.heap.size W w' ∧ Strs w' (lvlL k) v := by
 refine (Tryz.strings_Fields_laid (lvlT k) W (lvl_small k hk) (lvl_ascii k hk) ht).mono ?_
 rintro e w' ⟨rfl, rfl⟩
 refine ⟨_, rfl, (Below.refl _ _).alloc (Nat.le_refl _) _, ?_⟩
 have e1 : (Lib.fields (lvlT k).data.toList).map (fun l => Value.string ⟨l.toArray⟩) = (lvlL k).map Value.string := by
  rw [← lvl_fields k hk, List.map_map]
  rfl
 have e2 : (Lib.fields (lvlT k).data.toList).length = (lvlL k).length := by
  rw [← lvl_fields k hk, List.length_map]
 rw [e1, e2]
 refine strs_new W (lvlL k) 9 ?_
 have : k = 0 ∨ k = 1 ∨ k = 2 ∨ k = 3 ∨ k = 4 := by omega
 rcases this with rfl | rfl | rfl | rfl | rfl <;> decide
theorem level_calls : LevelC := by
 intro s w ht
 have hix0 : ∀ w : World, (Instr.index 243 (.agg #[.string ⟨#[124, 124]⟩, .string ⟨#[38, 38]⟩, .string ⟨#[61, 61, 32, 33, 61, 32, 60, 32, 60, 61, 32, 62, 32, 62, 61]⟩, .string ⟨#[43, 32, 45]⟩, .string ⟨#[42, 32, 47, 32, 37]⟩]) (.int .i64 0)).run Tryz.prog w = .ok (.string ⟨#[124, 124]⟩) w := fun _ => by kernel_rfl
 have hix1 : ∀ w : World, (Instr.index 243 (.agg #[.string ⟨#[124, 124]⟩, .string ⟨#[38, 38]⟩, .string ⟨#[61, 61, 32, 33, 61, 32, 60, 32, 60, 61, 32, 62, 32, 62, 61]⟩, .string ⟨#[43, 32, 45]⟩, .string ⟨#[42, 32, 47, 32, 37]⟩]) (.int .i64 1)).run Tryz.prog w = .ok (.string ⟨#[38, 38]⟩) w := fun _ => by kernel_rfl
 have hix2 : ∀ w : World, (Instr.index 243 (.agg #[.string ⟨#[124, 124]⟩, .string ⟨#[38, 38]⟩, .string ⟨#[61, 61, 32, 33, 61, 32, 60, 32, 60, 61, 32, 62, 32, 62, 61]⟩, .string ⟨#[43, 32, 45]⟩, .string ⟨#[42, 32, 47, 32, 37]⟩]) (.int .i64 2)).run Tryz.prog w = .ok (.string ⟨#[61, 61, 32, 33, 61, 32, 60, 32, 60, 61, 32, 62, 32, 62, 61]⟩) w := fun _ => by kernel_rfl
 have hix3 : ∀ w : World, (Instr.index 243 (.agg #[.string ⟨#[124, 124]⟩, .string ⟨#[38, 38]⟩, .string ⟨#[61, 61, 32, 33, 61, 32, 60, 32, 60, 61, 32, 62, 32, 62, 61]⟩, .string ⟨#[43, 32, 45]⟩, .string ⟨#[42, 32, 47, 32, 37]⟩]) (.int .i64 3)).run Tryz.prog w = .ok (.string ⟨#[43, 32, 45]⟩) w := fun _ => by kernel_rfl
 have hix4 : ∀ w : World, (Instr.index 243 (.agg #[.string ⟨#[124, 124]⟩, .string ⟨#[38, 38]⟩, .string ⟨#[61, 61, 32, 33, 61, 32, 60, 32, 60, 61, 32, 62, 32, 62, 61]⟩, .string ⟨#[43, 32, 45]⟩, .string ⟨#[42, 32, 47, 32, 37]⟩]) (.int .i64 4)).run Tryz.prog w = .ok (.string ⟨#[42, 32, 47, 32, 37]⟩) w := fun _ => by kernel_rfl
 have HT := Hd ht
 clear ht
 go_enter Tryz.func143, Tryz.ntmps143
 go_wp2_with (fail)
 go_loopw [2, 6] (fun r i ws => ∃ (k : Nat) (wo : World), k ≤ 5 ∧ r = .int .i64 0 ∧ i = .int .i64 k ∧ wo = ws ∧ Hid (Below w.heap.size w wo) ∧ Hid (∀ j, j < k → has (lvlL j) s = false)) (fun _ i _ => 5 - (intOf i).toNat)
 case atStart => exact ⟨0, _, by omega, rfl, rfl, rfl, Below.refl _ _, fun j hj => absurd hj (by omega)⟩
 case round =>
  obtain ⟨k, wo, hk, rfl, rfl, rfl, HB, HN⟩ := hrel
  by_cases h5 : k = 5
  · subst h5
    have HV := Hd (levelT_none HN.out)
    go_wp2_with (fail)
    go_ret
    exact ⟨by rw [HV.out]; rfl, HB.out⟩
  · have hk5 : k < 5 := by omega
    have HK5 := Hd hk5
    have HF := Hd (lvl_calls k hk5 wo (HT.out.below HB.out))
    have HAT : Hid (has (lvlL k) s = true → levelT s = (k : Int) + 1) := fun h => levelT_at hk5 h HN.out
    have hlt : (k : Int) < 5 := by omega
    have hge : (0 : Int) ≤ (k : Int) := by omega
    have hc : k = 0 ∨ k = 1 ∨ k = 2 ∨ k = 3 ∨ k = 4 := by omega
    have HL5 : Hid (lvlL k = lvlL k) := rfl
    clear hk hk5 h5
    cases hh : has (lvlL k) s with
    | true =>
      have HV := Hd (HAT.out hh)
      have HH := Hd hh
      clear hh HAT
      rcases hc with rfl | rfl | rfl | rfl | rfl
      all_goals (
       simp only [lvlT] at HF
       go_wp2_with (fail)
       refine HF.out.mono ?_
       rintro e w1 ⟨v, rfl, hb, hs⟩
       have HC := Hd (contains_calls _ s v w1 hs)
       rw [HH.out] at HC
       have HB1 := Hd (HB.out.trans (hb.mono HB.out.size))
       obtain ⟨_, _, c, p, rfl, _⟩ := hs.cells
       clear hs hb
       go_wp2_with (fail)
       refine HC.out.mono ?_
       rintro e w2 ⟨rfl, rfl⟩
       go_wp2_with (fail)
       go_ret
       exact ⟨by rw [HV.out]; rfl, HB1.out⟩)
    | false =>
      have HH := Hd hh
      have HN2 : Hid (∀ j, j < k + 1 → has (lvlL j) s = false) := fun j hj => by
       rcases Nat.lt_or_ge j k with h | h
       · exact HN.out j h
       · obtain rfl : j = k := by omega
         exact HH.out
      clear hh HAT
      rcases hc with rfl | rfl | rfl | rfl | rfl
      all_goals (
       simp only [lvlT] at HF
       go_wp2_with (fail)
       refine HF.out.mono ?_
       rintro e w1 ⟨v, rfl, hb, hs⟩
       have HC := Hd (contains_calls _ s v w1 hs)
       rw [HH.out] at HC
       have HB1 := Hd (HB.out.trans (hb.mono HB.out.size))
       obtain ⟨_, _, c, p, rfl, _⟩ := hs.cells
       clear hs hb
       go_wp2_with (fail)
       refine HC.out.mono ?_
       rintro e w2 ⟨rfl, rfl⟩
       go_wp2_with (fail)
       go_roundw
       case rel => exact ⟨_, _, by omega, rfl, by go_num, rfl, HB1.out, HN2.out⟩
       case measure => simp [intOf])
end
section
open Go.RowKit Go.Maps
theorem names1_calls (s : Txt) (w : World) : Calls Tryz.prog 218 #[.string s] w fun e w' => e = .returned (.bool (!isName s)) ∧ Below w.heap.size w w' := by
 have HN := Hd (name_calls s w)
 generalize isName s = b at *
 go_enter Tryz.func218, Tryz.ntmps218
 go_wp2_with (fail)
 refine HN.out.mono ?_
 rintro e w1 ⟨rfl, hb⟩
 go_wp2_with (fail)
 go_ret
 exact ⟨rfl, hb⟩
def namesB (l : List Txt) : Bool := !anyBy l fun s => !isName s
theorem names_calls (l : List Txt) (v : Value) (w : World) (h : Strs w l v) : Calls Tryz.prog 111 #[v] w fun e w' => e = .returned (.bool (namesB l)) ∧ Below w.heap.size w w' := by
 have eg : ∀ args w, (callFunc 218 args).run Tryz.prog w = .ok (.enter 218 args) w := enters_at Tryz.func218 (by kernel_rfl) rfl
 have HC := Hd (containsFunc_calls l v 218 #[] (fun s => !isName s) w h eg (fun x _ W _ => by simpa using names1_calls x W))
 have HB : Hid (namesB l = !anyBy l fun s => !isName s) := rfl
 generalize (anyBy l fun s => !isName s) = b at *
 obtain ⟨_, _, c, p, rfl, _⟩ := h.cells
 clear h
 go_enter Tryz.func111, Tryz.ntmps111
 go_wp2_with (fail)
 refine HC.out.mono ?_
 rintro e w1 ⟨rfl, hb⟩
 go_wp2_with (fail)
 go_ret
 exact ⟨by rw [HB.out]; rfl, hb⟩
theorem fits1_calls (x : Pol) (vr : Value) (w : World) (h : Strs w x.2 vr) : Calls Tryz.prog 221 #[.agg #[.string x.1, vr]] w fun e w' => e = .returned (.bool (!isName x.1 || !namesB x.2)) ∧ Below w.heap.size w w' := by
 obtain ⟨W1, eW⟩ : ∃ W1, w.alloc (.cells #[.string x.1, vr] 92) = W1 := ⟨_, rfl⟩
 obtain ⟨z1, hb1, m1⟩ := boxes1 eW
 have HN := Hd (name_calls x.1 W1)
 have h' := h.stays (keeps_of_below hb1)
 have HM : Hid (∀ W, Below W1.heap.size W1 W → Calls Tryz.prog 111 #[vr] W fun e w' => e = .returned (.bool (namesB x.2)) ∧ Below W.heap.size W w') := fun W hb => names_calls x.2 vr W (h'.stays (keeps_of_below hb))
 have HC : Hid (∀ W, Below W1.heap.size W1 W → W.cell? ⟨w.heap.size, 1, none⟩ = some vr) := fun W hb => (hb.cell (p := ⟨w.heap.size, 1, none⟩) (by show w.heap.size < W1.heap.size; omega)).trans (m1 1)
 have c0 : W1.cell? ⟨w.heap.size, 0, none⟩ = some (.string x.1) := m1 0
 have HB1 := Hd hb1
 obtain ⟨_, _, c, p, rfl, _⟩ := h.cells
 generalize namesB x.2 = b2 at *
 clear h h' hb1 m1 z1
 cases hn : isName x.1 with
 | true =>
   rw [hn] at HN
   go_enter Tryz.func221, Tryz.ntmps221
   go_wp2_with (fail)
   refine HN.out.mono ?_
   rintro e w2 ⟨rfl, hb2⟩
   have c1 := HC.out w2 hb2
   have HM2 := Hd (HM.out w2 hb2)
   go_wp2_with (fail)
   refine HM2.out.mono ?_
   rintro e w3 ⟨rfl, hb3⟩
   go_wp2_with (fail)
   go_ret
   exact ⟨rfl, HB1.out.trans ((hb2.trans (hb3.mono hb2.size)).mono HB1.out.size)⟩
 | false =>
   rw [hn] at HN
   go_enter Tryz.func221, Tryz.ntmps221
   go_wp2_with (fail)
   refine HN.out.mono ?_
   rintro e w2 ⟨rfl, hb2⟩
   go_wp2_with (fail)
   go_ret
   exact ⟨rfl, HB1.out.trans (hb2.mono HB1.out.size)⟩
theorem fits_calls (l : Lab) (v : Value) (w : World) (h : Lbl w l v) : Calls Tryz.prog 114 #[v] w fun e w' => e = .returned (.bool (fitsB l)) ∧ Below w.heap.size w w' := by
 have eg : ∀ args w, (callFunc 221 args).run Tryz.prog w = .ok (.enter 221 args) w := enters_at Tryz.func221 (by kernel_rfl) rfl
 have HP := Hd (print_calls l v w h)
 have HC : Hid (∀ W, Below w.heap.size w W → Calls Tryz.prog 220 #[v, .func (.func 221) #[] #[]] W fun e w' => e = .returned (.bool (anyBy l fun p => !isName p.1 || !namesB p.2)) ∧ Below W.heap.size W w') := fun W hb =>
  containsPol_calls l v 221 #[] _ W (h.stays (keeps_of_below hb)) eg (fun x _ vr W' _ hs => by simpa using fits1_calls x vr W' hs)
 have HB : Hid (fitsB l = ((printE l == 0) && !anyBy l fun p => !isName p.1 || !namesB p.2)) := rfl
 obtain ⟨_, _, c, p, rfl, _⟩ := h.cells
 generalize (anyBy l fun p => !isName p.1 || !namesB p.2) = b at *
 generalize printE l = pe at *
 generalize printS l = ps at *
 clear h
 by_cases he : pe = 0
 · have he1 : (pe == 0) = true := by simp [he]
   clear he
   go_enter Tryz.func114, Tryz.ntmps114
   go_wp2_with (fail)
   refine HP.out.mono ?_
   rintro e w2 ⟨rfl, hb2⟩
   have HC2 := Hd (HC.out w2 hb2)
   go_wp2_with (fail)
   refine HC2.out.mono ?_
   rintro e w3 ⟨rfl, hb3⟩
   go_wp2_with (fail)
   go_ret
   exact ⟨by rw [HB.out, he1]; rfl, hb2.trans (hb3.mono hb2.size)⟩
 · have he1 : (pe == 0) = false := by simp [he]
   clear he
   go_enter Tryz.func114, Tryz.ntmps114
   go_wp2_with (fail)
   refine HP.out.mono ?_
   rintro e w2 ⟨rfl, hb2⟩
   go_wp2_with (fail)
   go_ret
   exact ⟨by rw [HB.out, he1]; rfl, hb2⟩
end
end Go.Proofs.YtminbehofnnhmaaGreatDoor
