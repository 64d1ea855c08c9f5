/- Texts of the proof that ParseBrackets holds, part 2; no conditions. -/
import Derived.Test.YtminbehofnnhmaaGreatDoorProg
import Derived.Test.YtminbehofnnhmaaGreatDoorPB00
import Derived.Deep.QuietTactic
import Derived.BigQuiet
import Derived.Test.YtminbehofnnhmaaGreatDoorPB01
import Derived.Laws.AppendOwn
import Derived.Laws.OwnMore
import Derived.Lib.AppendZeros
import Derived.StillTailTactics
import Derived.WalkKit
import Derived.OneCell
import Derived.Maps.AppendAt
import Derived.Maps.OwnSet
import Derived.Lib.LaidTab
import Derived.Lib.Space
import Derived.WalkSmall
import Derived.Deep.LoopGhost
import Derived.Deep.RegionHeld3
namespace Go.Proofs.YtminbehofnnhmaaGreatDoor
set_option linter.unusedVariables false
set_option linter.unusedSimpArgs false
set_option maxHeartbeats 8000000
set_option maxRecDepth 100000
section
open Go.RowKit
theorem enters_at {P : Program} {f : FuncId} {fn : Func} {c : Code} (hf : P.funcs[f]? = some fn) (hname : (fn.name == "runtime.NumGoroutine") = false) (hb : fn.body = some c) (args : Array Value) (w : World) :
 (callFunc f args).run P w = .ok (.enter f args) w := by
 have h1 : fn.name ≠ "runtime.NumGoroutine" := by simpa using hname
 simp [callFunc, hf, h1, hb, mark]
theorem ret_bool {a b : Bool} (h : a = b) : Ending.returned (.bool a) = Ending.returned (.bool b) := by rw [h]
theorem ret_int {k : IntKind} {a b : Int} (h : a = b) : Ending.returned (.int k a) = Ending.returned (.int k b) := by rw [h]
def letterB (n : Int) : Bool := decide (97 ≤ n) && decide (n ≤ 122) || decide (65 ≤ n) && decide (n ≤ 90) || n == 95
def digitB (n : Int) : Bool := decide (48 ≤ n) && decide (n ≤ 57)
theorem letter_calls (n : Int) (w : World) :
 Calls Tryz.prog 148 #[.int .u8 n] w fun e w' => e = .returned (.bool (letterB n)) ∧ w = w' := by
 go_enter Tryz.func148, Tryz.ntmps148
 go_wp2
 all_goals go_ret
 all_goals exact ⟨ret_bool (by rw [Bool.eq_iff_iff]; simp [letterB] <;> omega), rfl⟩
theorem digit_calls (n : Int) (w : World) :
 Calls Tryz.prog 150 #[.int .u8 n] w fun e w' => e = .returned (.bool (digitB n)) ∧ w = w' := by
 go_enter Tryz.func150, Tryz.ntmps150
 go_wp2
 all_goals go_ret
 all_goals exact ⟨ret_bool (by rw [Bool.eq_iff_iff]; simp [digitB] <;> omega), rfl⟩
def idxOf (l : List Txt) (x : Txt) : Int := match l.idxOf? x with | some i => (i : Int) | none => -1
theorem idxOf_hit {l : List Txt} {x : Txt} {k : Nat} (hk : k < l.length) (h : l[k] = x) (hne : ∀ j, j < k → l[j]? ≠ some x) : idxOf l x = k := by
 unfold idxOf
 have : l.idxOf? x = some k := by
  rw [List.idxOf?, List.findIdx?_eq_some_iff_getElem]
  refine ⟨hk, by simp [h], fun j hj => ?_⟩
  have := hne j hj
  rw [List.getElem?_eq_getElem (by omega)] at this
  simpa using this
 rw [this]
theorem idxOf_miss {l : List Txt} {x : Txt} (hne : ∀ j, j < l.length → l[j]? ≠ some x) : idxOf l x = -1 := by
 unfold idxOf
 have : l.idxOf? x = none := by
  rw [List.idxOf?, List.findIdx?_eq_none_iff]
  intro y hy
  obtain ⟨j, hj, rfl⟩ := List.getElem_of_mem hy
  have := hne j hj
  rw [List.getElem?_eq_getElem hj] at this
  simpa using this
 rw [this]
theorem idxOf_mem (l : List Txt) (x : Txt) : decide (0 ≤ idxOf l x) = l.contains x := by
 unfold idxOf
 rw [Bool.eq_iff_iff]
 cases h : l.idxOf? x with
 | none =>
   rw [List.idxOf?, List.findIdx?_eq_none_iff] at h
   simp only [Int.reduceNeg, Int.neg_nonneg, decide_eq_true_eq, List.contains_iff_mem]
   constructor
   · intro h; omega
   · intro hm
     have := h x hm
     simp at this
 | some i =>
   rw [List.idxOf?, List.findIdx?_eq_some_iff_getElem] at h
   obtain ⟨hi, he, _⟩ := h
   simp only [beq_iff_eq] at he
   simp only [Int.natCast_nonneg, decide_true, List.contains_iff_mem, true_iff]
   exact he ▸ List.getElem_mem hi
theorem bytes_eq {x y : Txt} : (x.toList == y.toList) = true ↔ x = y := Lib.bytes_beq_iff x y
theorem index_calls (l : List Txt) (x : Txt) (v : Value) (w : World) (h : Strs w l v) :
 Calls Tryz.prog 227 #[v, .string x] w fun e w' => e = .returned (.int .i64 (idxOf l x)) ∧ w = w' := by
 obtain ⟨b, o, c, p, rfl, hlc, hc, hp, hcells⟩ := h.cells
 go_enter Tryz.func227, Tryz.ntmps227
 go_wp2
 go_loop [5, 8] (fun _ i => ∃ k : Nat, k ≤ l.length ∧ i = .int .i64 k ∧ ∀ j, j < k → l[j]? ≠ some x) (fun _ i => l.length - (intOf i).toNat)
 case atStart => exact ⟨0, Nat.zero_le _, rfl, fun j hj => absurd hj (Nat.not_lt_zero _)⟩
 case round =>
  obtain ⟨k, hk, rfl, hne⟩ := hrel
  by_cases hlt : k < l.length
  · have hcell := hcells k hlt
    obtain rfl := hp (by omega)
    clear hp hcells
    go_wp2
    · have he : (x.toList == (l[k]).toList) = true := by assumption
      go_ret
      exact ⟨ret_int (idxOf_hit hlt (bytes_eq.1 he).symm hne).symm, rfl⟩
    · have he : (x.toList == (l[k]).toList) = false := by assumption
      go_round
      case rel =>
       refine ⟨k + 1, by omega, by go_num, fun j hj => ?_⟩
       by_cases e : j = k
       · subst e
         rw [List.getElem?_eq_getElem hlt]
         intro h
         have := bytes_eq (x := x) (y := l[j])
         simp at h
         simp [h] at he
       · exact hne j (by omega)
      case measure => simp [intOf]; omega
  · go_wp2
    go_ret
    exact ⟨ret_int (idxOf_miss (fun j hj => hne j (by omega))).symm, rfl⟩
def has (l : List Txt) (x : Txt) : Bool := l.contains x
theorem has_iff {l : List Txt} {x : Txt} : has l x = true ↔ x ∈ l := by simp [has]
theorem contains_calls (l : List Txt) (x : Txt) (v : Value) (w : World) (h : Strs w l v) :
 Calls Tryz.prog 126 #[v, .string x] w fun e w' => e = .returned (.bool (has l x)) ∧ w = w' := by
 go_enter Tryz.func126, Tryz.ntmps126
 go_wp2_with (go_at_call 227; refine (index_calls l x _ _ h).mono ?_; rintro e w' ⟨rfl, rfl⟩)
 go_ret
 exact ⟨ret_bool (idxOf_mem l x), rfl⟩
end
section
open Go.RowKit
def wordsL : List Txt := [
 ⟨#[99, 104, 105, 101, 102]⟩,
 ⟨#[97, 99, 116, 115]⟩,
 ⟨#[105, 110]⟩,
 ⟨#[111, 117, 116]⟩,
 ⟨#[112, 114, 111, 99]⟩,
 ⟨#[98, 101, 103, 105, 110]⟩,
 ⟨#[102, 111, 114]⟩,
 ⟨#[118, 97, 114]⟩,
 ⟨#[105, 102]⟩,
 ⟨#[101, 108, 115, 101]⟩,
 ⟨#[119, 104, 105, 108, 101]⟩,
 ⟨#[115, 101, 110, 100]⟩,
 ⟨#[116, 97, 107, 101]⟩,
 ⟨#[100, 111]⟩,
 ⟨#[114, 101, 116, 117, 114, 110]⟩,
 ⟨#[114, 101, 108, 101, 97, 115, 101]⟩,
 ⟨#[116, 111]⟩,
 ⟨#[105, 110, 116]⟩,
 ⟨#[98, 111, 111, 108]⟩,
 ⟨#[116, 114, 117, 101]⟩,
 ⟨#[102, 97, 108, 115, 101]⟩]
def isWord (s : Txt) : Bool := has wordsL s
theorem strs_new (w : World) (l : List Txt) (e : TypeId) (hl : l.length ≤ 9223372036854775807) : Strs (w.alloc (.cells (l.map Value.string).toArray e)) l (.slice (some ⟨w.heap.size, 0, none⟩) l.length l.length) := by
 refine ⟨_, _, rfl, Nat.le_refl _, by unfold maxLen; omega, Or.inr ⟨_, _, rfl, fun i h => ⟨_, rfl, rfl, fun j x hx => ?_⟩⟩⟩
 rw [World.cell?_alloc_mark]
 match j, hx with
 | 0, hx =>
   simp at hx
   subst hx
   simp [h]
theorem words_calls (w : World) :
 Calls Tryz.prog 243 #[] w fun e w' => ∃ v, e = .returned v ∧ Strs w' wordsL v ∧ Below w.heap.size w w' := by
 go_enter Tryz.func243, Tryz.ntmps243
 go_wp2
 go_ret
 exact ⟨_, rfl, strs_new w wordsL 9 (by decide), (Below.refl _ _).alloc (Nat.le_refl _) _⟩
theorem word_calls (s : Txt) (w : World) :
 Calls Tryz.prog 151 #[.string s] w fun e w' => e = .returned (.bool (isWord s)) ∧ Below w.heap.size w w' := by
 go_enter Tryz.func151, Tryz.ntmps151
 go_wp2_with (first | (go_at_call 243; refine (words_calls _).mono ?_; rintro e w1 ⟨v, rfl, hv, hb⟩) | (go_at_call 126; refine (contains_calls wordsL s _ _ hv).mono ?_; rintro e w2 ⟨rfl, rfl⟩))
 go_ret
 exact ⟨rfl, hb⟩
def okAt (s : Txt) (i : Nat) : Bool := letterB (s.data.toList.getD i 0).toNat || (i != 0 && digitB (s.data.toList.getD i 0).toNat)
def isName (s : Txt) : Bool := decide (1 ≤ s.size) && decide (s.size ≤ 12) && !isWord s && (List.range s.size).all (okAt s)
theorem isName_long {s : Txt} (h : 12 < s.size) : isName s = false := by simp [isName]; omega
theorem isName_empty {s : Txt} (h : ¬ 1 ≤ s.size) : isName s = false := by simp [isName]; omega
theorem isName_word {s : Txt} (h : isWord s = true) : isName s = false := by simp [isName, h]
theorem isName_at {s : Txt} {k : Nat} (hk : k < s.size) (h : okAt s k = false) : isName s = false := by
 simp only [isName, Bool.and_eq_false_iff, List.all_eq_false, List.mem_range]
 exact Or.inr ⟨k, hk, by simp [h]⟩
theorem isName_all {s : Txt} (h1 : 1 ≤ s.size) (h2 : s.size ≤ 12) (h3 : isWord s = false) (h : ∀ j, j < s.size → okAt s j = true) : isName s = true := by
 simp only [isName, h1, h2, h3, decide_true, Bool.not_false, Bool.and_self, Bool.true_and, List.all_eq_true, List.mem_range]
 exact h
theorem byte_at (s : Txt) (k : Nat) (h : k < s.size) : s.data.toList.getD k 0 = s[k] := by
 simp [List.getD, h]; rfl
theorem all_snoc {p : Nat → Bool} {k : Nat} (h : ∀ j, j < k → p j = true) (hk : p k = true) : ∀ j, j < k + 1 → p j = true := by
 intro j hj
 by_cases e : j = k
 · exact e ▸ hk
 · exact h j (by omega)
theorem okAt_letter {s : Txt} {k : Nat} (h : k < s.size) (hl : letterB (s[k].toNat) = true) : okAt s k = true := by
 unfold okAt
 rw [byte_at s k h, hl]
 rfl
theorem okAt_digit {s : Txt} {k : Nat} (h : k < s.size) (h0 : ¬ k = 0) (hd : (!digitB (s[k].toNat)) = false) : okAt s k = true := by
 have hd' : digitB (s[k].toNat) = true := by simpa using hd
 unfold okAt
 rw [byte_at s k h, hd']
 simp [h0]
theorem okAt_first {s : Txt} {k : Nat} (h : k < s.size) (hl : ¬ letterB (s[k].toNat) = true) (h0 : k = 0) : okAt s k = false := by
 have hl' : letterB (s[k].toNat) = false := by simpa using hl
 unfold okAt
 rw [byte_at s k h, hl']
 simp [h0]
theorem okAt_none {s : Txt} {k : Nat} (h : k < s.size) (hl : ¬ letterB (s[k].toNat) = true) (h0 : ¬ k = 0) (hd : ((k : Int) == 0) = true ∨ (!digitB (s[k].toNat)) = true) : okAt s k = false := by
 have hl' : letterB (s[k].toNat) = false := by simpa using hl
 have hd' : digitB (s[k].toNat) = false := by
  rcases hd with hd | hd
  · exact absurd (by simpa using hd) h0
  · simpa using hd
 unfold okAt
 rw [byte_at s k h, hl', hd']
 simp
theorem name_calls (s : Txt) (w : World) :
 Calls Tryz.prog 115 #[.string s] w fun e w' => e = .returned (.bool (isName s)) ∧ Below w.heap.size w w' := by
 by_cases h1 : 1 ≤ s.size
 · by_cases h2 : s.size ≤ 12
   · have h3 : ¬ (s.size : Int) < 1 := by omega
     have h4 : ¬ 12 < (s.size : Int) := by omega
     cases hw : isWord s with
     | true =>
       go_enter Tryz.func115, Tryz.ntmps115
       go_wp2_with (go_at_call 151; refine (word_calls s _).mono ?_; rintro e w1 ⟨rfl, hb⟩)
       go_ret
       exact ⟨ret_bool (isName_word hw).symm, hb⟩
     | false =>
       go_enter Tryz.func115, Tryz.ntmps115
       go_wp2_with (go_at_call 151; refine (word_calls s _).mono ?_; rintro e w1 ⟨rfl, hb⟩)
       go_loop [3, 18] (fun _ i => ∃ k : Nat, k ≤ s.size ∧ i = .int .i64 k ∧ ∀ j, j < k → okAt s j = true) (fun _ i => s.size - (intOf i).toNat)
       case atStart => exact ⟨0, Nat.zero_le _, rfl, fun j hj => absurd hj (Nat.not_lt_zero _)⟩
       case round =>
        obtain ⟨k, hk, rfl, hall⟩ := hrel
        by_cases hlt : k < s.size
        · go_wp2_with (first | (go_at_call 148; refine (letter_calls _ _).mono ?_; rintro e w2 ⟨rfl, rfl⟩) | (go_at_call 150; refine (digit_calls _ _).mono ?_; rintro e w2 ⟨rfl, rfl⟩))
          · have hl : letterB (s[k].toNat) = true := by assumption
            go_round
            case rel => exact ⟨k + 1, by omega, by go_num, all_snoc hall (okAt_letter hlt hl)⟩
            case measure => simp [intOf]; omega
          · have hl : ¬ letterB (s[k].toNat) = true := by assumption
            have h0 : k = 0 := by assumption
            go_ret
            exact ⟨ret_bool (isName_at hlt (okAt_first hlt hl h0)).symm, hb⟩
          · have hl : ¬ letterB (s[k].toNat) = true := by assumption
            have h0 : ¬ k = 0 := by assumption
            have hd : ((k : Int) == 0) = true ∨ (!digitB (s[k].toNat)) = true := by assumption
            go_ret
            exact ⟨ret_bool (isName_at hlt (okAt_none hlt hl h0 hd)).symm, hb⟩
          · have hl : ¬ letterB (s[k].toNat) = true := by assumption
            have h0 : ¬ k = 0 := by assumption
            have hd : ((k : Int) == 0) = false ∧ (!digitB (s[k].toNat)) = false := by assumption
            go_round
            case rel => exact ⟨k + 1, by omega, by go_num, all_snoc hall (okAt_digit hlt h0 hd.2)⟩
            case measure => simp [intOf]; omega
        · go_wp2
          go_ret
          exact ⟨ret_bool (isName_all h1 h2 hw (fun j hj => hall j (by omega))).symm, hb⟩
   · have h3 : ¬ (s.size : Int) < 1 := by omega
     have h4 : 12 < (s.size : Int) := by omega
     go_enter Tryz.func115, Tryz.ntmps115
     go_wp2
     go_ret
     exact ⟨ret_bool (isName_long (by omega)).symm, Below.refl _ _⟩
 · have h3 : (s.size : Int) < 1 := by omega
   go_enter Tryz.func115, Tryz.ntmps115
   go_wp2
   go_ret
   exact ⟨ret_bool (isName_empty h1).symm, Below.refl _ _⟩
end
section
open Go.RowKit
def bytesOf (s : Txt) : List UInt8 := s.data.toList
theorem bytesOf_len (s : Txt) : (bytesOf s).length = s.size := by unfold bytesOf; rw [Array.length_toList]; rfl
theorem bytesOf_at (s : Txt) (k : Nat) (h : k < s.size) : (bytesOf s)[k]'(by rw [bytesOf_len]; exact h) = s[k] := by
 unfold bytesOf
 simp [ByteArray.getElem_eq_getElem_data]
theorem bytesOf_append (a b : Txt) : bytesOf (a ++ b) = bytesOf a ++ bytesOf b := by
 unfold bytesOf; rw [ByteArray.data_append, Array.toList_append]
theorem txt_ext {a b : Txt} (h : bytesOf a = bytesOf b) : a = b := by
 cases a; cases b
 unfold bytesOf at h
 simpa using h
theorem bytesOf_extract (s : Txt) (a e : Nat) : bytesOf (s.extract a e) = ((bytesOf s).drop a).take (e - a) := by
 unfold bytesOf
 rw [ByteArray.data_extract, Array.toList_extract]
def txtOf (l : List UInt8) : Txt := ⟨l.toArray⟩
theorem bytesOf_txtOf (l : List UInt8) : bytesOf (txtOf l) = l := by unfold bytesOf txtOf; simp
theorem txtOf_size (l : List UInt8) : (txtOf l).size = l.length := by rw [← bytesOf_len, bytesOf_txtOf]
theorem txtOf_bytes (t : Txt) : txtOf (bytesOf t) = t := txt_ext (bytesOf_txtOf _)
end
section
open Go.RowKit
def idxBy {α : Type} (l : List α) (q : α → Bool) : Int := match l.findIdx? q with | some i => (i : Int) | none => -1
theorem idxBy_hit {α : Type} {l : List α} {q : α → Bool} {k : Nat} (hk : k < l.length) (h : q l[k] = true) (hne : ∀ j (hj : j < l.length), j < k → q l[j] = false) : idxBy l q = k := by
 unfold idxBy
 have : l.findIdx? q = some k := by
  rw [List.findIdx?_eq_some_iff_getElem]
  refine ⟨hk, h, fun j hj => ?_⟩
  rw [hne j (by omega) hj]
  simp
 rw [this]
theorem idxBy_miss {α : Type} {l : List α} {q : α → Bool} (hne : ∀ j (hj : j < l.length), q l[j] = false) : idxBy l q = -1 := by
 unfold idxBy
 have : l.findIdx? q = none := by
  rw [List.findIdx?_eq_none_iff]
  intro y hy
  obtain ⟨j, hj, rfl⟩ := List.getElem_of_mem hy
  exact hne j hj
 rw [this]
def anyBy {α : Type} (l : List α) (q : α → Bool) : Bool := l.any q
theorem idxBy_any {α : Type} (l : List α) (q : α → Bool) : decide (0 ≤ idxBy l q) = anyBy l q := by
 unfold idxBy anyBy
 rw [Bool.eq_iff_iff]
 cases h : l.findIdx? q with
 | none =>
   rw [List.findIdx?_eq_none_iff] at h
   simp only [Int.reduceNeg, Int.neg_nonneg, decide_eq_true_eq, List.any_eq_true]
   constructor
   · intro h; omega
   · rintro ⟨x, hx, hq⟩
     rw [h x hx] at hq
     cases hq
 | some i =>
   rw [List.findIdx?_eq_some_iff_getElem] at h
   obtain ⟨hi, he, _⟩ := h
   simp only [Int.natCast_nonneg, decide_true, List.any_eq_true, true_iff]
   exact ⟨_, List.getElem_mem hi, he⟩
def TellsTxt (W : World) (l : List Txt) (fn : FuncId) (cap : Array Value) (q : Txt → Bool) : Prop :=
 ∀ (x : Txt), x ∈ l → ∀ (w : World), Below W.heap.size W w → Calls Tryz.prog fn (#[.string x] ++ cap) w fun e w' => e = .returned (.bool (q x)) ∧ Below w.heap.size w w'
theorem indexFunc_calls (l : List Txt) (v : Value) (fn : FuncId) (cap : Array Value) (q : Txt → Bool) (w : World) (h : Strs w l v) (eg : ∀ args w, (callFunc fn args).run Tryz.prog w = .ok (.enter fn args) w) (hq : TellsTxt w l fn cap q) :
 Calls Tryz.prog 152 #[v, .func (.func fn) #[] cap] w fun e w' => e = .returned (.int .i64 (idxBy l q)) ∧ Below w.heap.size w w' := by
 obtain ⟨b, o, c, p, rfl, hlc, hc, hp, hcells⟩ := h.cells
 go_enter Tryz.func152, Tryz.ntmps152
 go_wp2
 go_loopw [5, 8] (fun _ i wr => ∃ k : Nat, k ≤ l.length ∧ i = .int .i64 k ∧ Below w.heap.size w wr ∧ ∀ j (hj : j < l.length), j < k → q l[j] = false) (fun _ i _ => l.length - (intOf i).toNat)
 case atStart => exact ⟨0, Nat.zero_le _, rfl, Below.refl _ _, fun j _ hj => absurd hj (Nat.not_lt_zero _)⟩
 case round =>
  obtain ⟨k, hk, rfl, hb, hne⟩ := hrel
  by_cases hlt : k < l.length
  · have hcell0 := hcells k hlt
    have hcell : wr.cell? ⟨b, o + k, none⟩ = some (.string l[k]) := (hb.cell (cell_lt hcell0)).trans hcell0
    obtain rfl := hp (by omega)
    have HN := Hd hne
    clear hp hcells hcell0 hne
    have HQ := hq l[k] (List.getElem_mem hlt) wr hb
    clear hq
    cases hx : q l[k] with
    | true =>
      rw [hx] at HQ
      have HX := Hd hx
      clear hx
      go_wp2_with (fail)
      refine HQ.mono ?_
      rintro e w1 ⟨rfl, hb1⟩
      go_wp2
      go_ret
      exact ⟨ret_int (idxBy_hit hlt HX.out HN.out).symm, hb.trans (hb1.mono hb.size)⟩
    | false =>
      rw [hx] at HQ
      have HX := Hd hx
      clear hx
      go_wp2_with (fail)
      refine HQ.mono ?_
      rintro e w1 ⟨rfl, hb1⟩
      go_wp2
      go_roundw
      case rel =>
       refine ⟨k + 1, by omega, by go_num, hb.trans (hb1.mono hb.size), fun j hj hj' => ?_⟩
       by_cases e : j = k
       · subst e; exact HX.out
       · exact HN.out j hj (by omega)
      case measure => simp [intOf]; omega
  · go_wp2
    go_ret
    exact ⟨ret_int (idxBy_miss (fun j hj => hne j hj (by omega))).symm, hb⟩
theorem containsFunc_calls (l : List Txt) (v : Value) (fn : FuncId) (cap : Array Value) (q : Txt → Bool) (w : World) (h : Strs w l v)
 (eg : ∀ args w, (callFunc fn args).run Tryz.prog w = .ok (.enter fn args) w) (hq : TellsTxt w l fn cap q) :
 Calls Tryz.prog 213 #[v, .func (.func fn) #[] cap] w fun e w' => e = .returned (.bool (anyBy l q)) ∧ Below w.heap.size w w' := by
 rw [← idxBy_any]
 go_enter Tryz.func213, Tryz.ntmps213
 go_wp2_with (go_at_call 152; refine (indexFunc_calls l _ fn cap q _ h eg hq).mono ?_; rintro e w' ⟨rfl, hb⟩)
 go_ret
 exact ⟨rfl, hb⟩
end
section
open Go.RowKit
def restOf (s : Txt) (a : Nat) : List UInt8 := (bytesOf s).drop a
def runEnd (q : Int → Bool) (s : Txt) (a : Nat) : Nat := a + ((restOf s a).takeWhile fun b => q b.toNat).length
theorem rest_cons {s : Txt} {k : Nat} (h : k < s.size) : restOf s k = s[k] :: restOf s (k + 1) := by
 unfold restOf
 rw [List.drop_eq_getElem_cons (by rw [bytesOf_len]; exact h), bytesOf_at s k h]
theorem rest_end {s : Txt} {k : Nat} (h : s.size ≤ k) : restOf s k = [] := by
 unfold restOf; exact List.drop_eq_nil_of_le (by rw [bytesOf_len]; exact h)
theorem runEnd_stop {q : Int → Bool} {s : Txt} {k : Nat} (h : k < s.size) (hq : q (s[k].toNat) = false) : runEnd q s k = k := by
 unfold runEnd; rw [rest_cons h, List.takeWhile_cons, if_neg (by rw [hq]; simp)]; rfl
theorem runEnd_over {q : Int → Bool} {s : Txt} {k : Nat} (h : s.size ≤ k) : runEnd q s k = k := by
 unfold runEnd; rw [rest_end h]; rfl
theorem runEnd_step {q : Int → Bool} {s : Txt} {k : Nat} (h : k < s.size) (hq : q (s[k].toNat) = true) : runEnd q s k = runEnd q s (k + 1) := by
 unfold runEnd; rw [rest_cons h, List.takeWhile_cons, if_pos hq, List.length_cons]; omega
theorem runEnd_ge (q : Int → Bool) (s : Txt) (a : Nat) : a ≤ runEnd q s a := Nat.le_add_right _ _
theorem runEnd_le {q : Int → Bool} {s : Txt} {a : Nat} (h : a ≤ s.size) : runEnd q s a ≤ s.size := by
 unfold runEnd
 have h1 := (List.takeWhile_sublist (p := fun b : UInt8 => q b.toNat) (l := restOf s a)).length_le
 have h2 : (restOf s a).length = s.size - a := by unfold restOf; rw [List.length_drop, bytesOf_len]
 omega
def TellsByte (fn : FuncId) (q : Int → Bool) : Prop := ∀ (n : Int) (w : World), Calls Tryz.prog fn #[.int .u8 n] w fun e w' => e = .returned (.bool (q n)) ∧ w = w'
theorem run_calls (s : Txt) (a : Nat) (hs : s.size ≤ 4000) (ha : a ≤ s.size) (fn : FuncId) (q : Int → Bool) (hq : TellsByte fn q) (eg : ∀ args w, (callFunc fn args).run Tryz.prog w = .ok (.enter fn args) w) (w : World) :
 Calls Tryz.prog 146 #[.string s, .int .i64 a, .func (.func fn) #[] #[]] w fun e w' => e = .returned (.string (s.extract a (runEnd q s a))) ∧ w' = w := by
 go_enter Tryz.func146, Tryz.ntmps146
 go_wp2
 go_loop [7] (fun i => ∃ k : Nat, a ≤ k ∧ k ≤ s.size ∧ i = .int .i64 k ∧ Hid (runEnd q s k = runEnd q s a)) (fun i => s.size - (intOf i).toNat)
 case atStart => exact ⟨a, Nat.le_refl _, ha, rfl, rfl⟩
 case round =>
  obtain ⟨k, hk1, hk, rfl, HE⟩ := hrel
  by_cases hlt : k < s.size
  · have hkk : (k : Int) < (s.size : Int) := by omega
    cases hc : q (s[k].toNat) with
    | true =>
      have HX : Hid (runEnd q s (k + 1) = runEnd q s a) := by rw [← HE.out]; exact (runEnd_step hlt hc).symm
      go_wp2_with (fail)
      refine (hq _ _).mono ?_
      rintro e w1 ⟨rfl, rfl⟩
      rw [hc]
      clear hc
      go_wp2
      go_round
      case rel => exact ⟨k + 1, by omega, by omega, by go_num, HX⟩
      case measure => simp [intOf]; omega
    | false =>
      have HX : Hid (runEnd q s a = k) := by rw [← HE.out]; exact runEnd_stop hlt hc
      go_wp2_with (fail)
      refine (hq _ _).mono ?_
      rintro e w1 ⟨rfl, rfl⟩
      rw [hc]
      clear hc
      go_wp2
      go_ret
      exact ⟨by rw [HX.out]; rfl, rfl⟩
  · have HX : Hid (runEnd q s a = k) := by rw [← HE.out]; exact runEnd_over (by omega)
    go_wp2
    go_ret
    exact ⟨by rw [HX.out]; rfl, rfl⟩
def noteB (n : Int) : Bool := n != 10
def wordB (n : Int) : Bool := letterB n || digitB n
theorem noteF_calls : TellsByte 147 noteB := fun n w => by
 go_enter Tryz.func147, Tryz.ntmps147
 go_wp2
 go_ret
 exact ⟨ret_bool (by unfold noteB; rfl), rfl⟩
theorem wordF_calls : TellsByte 149 wordB := fun n w => by
 cases hl : letterB n with
 | true =>
   have HX : Hid (wordB n = true) := by unfold Hid wordB; rw [hl]; rfl
   go_enter Tryz.func149, Tryz.ntmps149
   go_wp2_with (fail)
   refine (letter_calls n _).mono ?_
   rintro e w1 ⟨rfl, rfl⟩
   rw [hl]
   clear hl
   go_wp2
   go_ret
   exact ⟨ret_bool HX.out.symm, rfl⟩
 | false =>
   have HX : Hid (wordB n = digitB n) := by unfold Hid wordB; rw [hl]; rfl
   go_enter Tryz.func149, Tryz.ntmps149
   go_wp2_with (fail)
   refine (letter_calls n _).mono ?_
   rintro e w1 ⟨rfl, rfl⟩
   rw [hl]
   clear hl
   go_wp2_with (fail)
   refine (digit_calls n _).mono ?_
   rintro e w1 ⟨rfl, rfl⟩
   go_wp2
   go_ret
   exact ⟨ret_bool HX.out.symm, rfl⟩
theorem digitF_calls : TellsByte 150 digitB := digit_calls
def signsL : List Txt := [⟨#[38, 38]⟩, ⟨#[124, 124]⟩, ⟨#[61, 61]⟩, ⟨#[33, 61]⟩, ⟨#[60, 61]⟩, ⟨#[62, 61]⟩, ⟨#[43]⟩, ⟨#[45]⟩, ⟨#[42]⟩, ⟨#[47]⟩, ⟨#[37]⟩, ⟨#[60]⟩, ⟨#[62]⟩, ⟨#[33]⟩, ⟨#[40]⟩, ⟨#[41]⟩, ⟨#[123]⟩, ⟨#[125]⟩, ⟨#[44]⟩, ⟨#[59]⟩, ⟨#[58]⟩, ⟨#[61]⟩]
def signCells : Array Value := (signsL.map Value.string).toArray
theorem signs_calls (w : World) :
 Calls Tryz.prog 153 #[] w fun e w' => e = .returned (.slice (some ⟨w.heap.size, 0, none⟩) 22 22) ∧ w' = w.alloc (.cells signCells 9) := by
 go_enter Tryz.func153, Tryz.ntmps153
 go_wp2
 go_ret
 exact ⟨rfl, rfl⟩
theorem signs_strs (w : World) : Strs (w.alloc (.cells signCells 9)) signsL (.slice (some ⟨w.heap.size, 0, none⟩) 22 22) := strs_new w signsL 9 (by decide)
def signAt (s : Txt) (a : Nat) (x : Txt) : Bool := Lib.hasPrefix (restOf s a) x.data.toList
theorem sign_eq (s x : Txt) (a : Nat) : Lib.hasPrefix (List.take (s.size - a) (List.drop a s.data.toList)) x.data.toList = signAt s a x := by
 unfold signAt restOf bytesOf
 rw [List.take_of_length_le (by rw [List.length_drop, Array.length_toList]; exact Nat.le_refl _)]
theorem signF_calls (s x : Txt) (a : Nat) (ha : a ≤ s.size) (g1 g2 : Nat) (w : World) (h1 : w.cell? ⟨g1, 0, none⟩ = some (.string s)) (h2 : w.cell? ⟨g2, 0, none⟩ = some (.int .i64 a)) :
 Calls Tryz.prog 154 #[.string x, .pointer (some ⟨g1, 0, none⟩), .pointer (some ⟨g2, 0, none⟩)] w fun e w' => e = .returned (.bool (signAt s a x)) ∧ w' = w := by
 go_enter Tryz.func154, Tryz.ntmps154
 go_wp2_with (fail)
 refine (Tryz.strings_HasPrefix _ _ _).mono ?_
 rintro e w1 ⟨rfl, rfl⟩
 go_wp2
 go_ret
 exact ⟨ret_bool (sign_eq s x a), rfl⟩
end
section
open Go.RowKit
def Rows {α : Type} (E : Enc α) (k : Nat) (w : World) : List α → List Value → Prop
 | [], vs => vs = []
 | x :: l, vs => ∃ us us', vs = us ++ us' ∧ E w x us ∧ us.length = k ∧ Rows E k w l us'
def Plain {α : Type} (E : Enc α) : Prop := ∀ w x vs, E w x vs → ∀ u ∈ vs, u.oneCell' = true
section
variable {α β : Type} {E : Enc α} {F : Enc β} {k : Nat} {w w' : World}
theorem Rows.length : ∀ {l : List α} {vs : List Value}, Rows E k w l vs → vs.length = l.length * k
 | [], _, h => by have h' : _ = [] := h; subst h'; simp
 | x :: l, vs, h => by
   obtain ⟨us, us', rfl, _, h1, h2⟩ := h
   have := Rows.length h2
   simp [this, h1, Nat.add_mul, Nat.add_comm]
theorem Rows.append : ∀ {l m : List α} {vs us : List Value}, Rows E k w l vs → Rows E k w m us → Rows E k w (l ++ m) (vs ++ us)
 | [], m, vs, us, h, h' => by have e : vs = [] := h; subst e; simpa using h'
 | x :: l, m, vs, us, h, h' => by
   obtain ⟨a, b, rfl, h1, h2, h3⟩ := h
   exact ⟨a, b ++ us, by rw [List.append_assoc], h1, h2, Rows.append h3 h'⟩
theorem Rows.one {x : α} {vs : List Value} (h : E w x vs) (hk : vs.length = k) : Rows E k w [x] vs := ⟨vs, [], by simp, h, hk, rfl⟩
theorem Rows.stays (hE : Stays E) (hk : Keeps w w') : ∀ {l : List α} {vs : List Value}, Rows E k w l vs → Rows E k w' l vs
 | [], _, h => h
 | x :: l, vs, h => by
   obtain ⟨a, b, rfl, h1, h2, h3⟩ := h
   exact ⟨a, b, rfl, hE _ _ _ _ hk h1, h2, Rows.stays hE hk h3⟩
theorem Rows.at : ∀ {l : List α} {vs : List Value}, Rows E k w l vs → ∀ i (hi : i < l.length), ∃ us, E w l[i] us ∧ us.length = k ∧ ∀ j x, us[j]? = some x → vs[i * k + j]? = some x
 | [], _, _, i, hi => absurd hi (by simp)
 | x :: l, vs, h, 0, _ => by
   obtain ⟨a, b, rfl, h1, h2, h3⟩ := h
   refine ⟨a, h1, h2, fun j y hy => ?_⟩
   have := (List.getElem?_eq_some_iff.1 hy).1
   rw [Nat.zero_mul, Nat.zero_add, List.getElem?_append_left this]
   exact hy
 | x :: l, vs, h, i + 1, hi => by
   obtain ⟨a, b, rfl, h1, h2, h3⟩ := h
   obtain ⟨us, g1, g2, g3⟩ := Rows.at h3 i (by simpa using hi)
   refine ⟨us, g1, g2, fun j y hy => ?_⟩
   rw [List.getElem?_append_right (by rw [h2, Nat.add_mul]; omega), h2, show (i + 1) * k + j - k = i * k + j by rw [Nat.add_mul]; omega]
   exact g3 j y hy
theorem Rows.plain (hE : Plain E) : ∀ {l : List α} {vs : List Value}, Rows E k w l vs → ∀ u ∈ vs, u.oneCell' = true
 | [], _, h => by have e : _ = [] := h; subst e; intro u hu; cases hu
 | x :: l, vs, h => by
   obtain ⟨a, b, rfl, h1, h2, h3⟩ := h
   intro u hu
   rcases List.mem_append.1 hu with hu | hu
   · exact hE _ _ _ h1 u hu
   · exact Rows.plain hE h3 u hu
theorem One.plain {f : α → Value} (h : ∀ x, (f x).oneCell' = true) : Plain (One f) := fun w x vs e u hu => by
 have e' : vs = [f x] := e
 subst e'
 simp at hu
 subst hu
 exact h x
theorem txt_plain : Plain txt := One.plain fun _ => rfl
def Free {α : Type} (E : Enc α) : Prop := ∀ w w' x vs, E w x vs → E w' x vs
theorem One.free (f : α → Value) : Free (One f) := fun _ _ _ _ h => h
theorem Rows.free (hE : Free E) : ∀ {l : List α} {vs : List Value}, Rows E k w l vs → Rows E k w' l vs
 | [], _, h => h
 | x :: l, vs, h => by
   obtain ⟨a, b, rfl, h1, h2, h3⟩ := h
   exact ⟨a, b, rfl, hE _ _ _ _ h1, h2, Rows.free hE h3⟩
theorem cell_keep (hk : Keeps w w') {ad : Addr} {u : Value} (h : w.cell? ad = some u) : w'.cell? ad = some u := by
 obtain ⟨b, o, sp⟩ := ad
 have hs : sp = none := by simpa using World.cell?_spot h
 subst hs
 exact hk.2 b o _ h
theorem SliceOf.rows (hk : 0 < k) {l : List α} {v : Value} (h : SliceOf E k w l v) : ∃ p c vs, v = .slice p l.length c ∧ l.length ≤ c ∧ c ≤ 9223372036854775807 ∧ Rows E k w l vs ∧ (p = none → l.length = 0) ∧
 ∀ ad : Addr, p = some ad → ∀ (j : Nat) (u : Value), vs[j]? = some u → w.cell? (ad.add j) = some u := by
 obtain ⟨p, c, rfl, h1, h2, h3⟩ := h
 rcases h3 with rfl | ⟨b, o, rfl, h3⟩
 · exact ⟨p, c, [], rfl, h1, by unfold maxLen at h2; omega, rfl, fun _ => rfl, fun _ _ j u hu => by simp at hu⟩
 · have : ∀ (n : Nat), n ≤ l.length → ∃ vs : List Value, Rows E k w (l.take n) vs ∧ ∀ (j : Nat) (u : Value), vs[j]? = some u → w.cell? ⟨b, o + j, none⟩ = some u := by
    intro n
    induction n with
    | zero => exact fun _ => ⟨[], rfl, fun j u hu => by simp at hu⟩
    | succ n ih =>
      intro hn
      obtain ⟨vs, g1, g2⟩ := ih (by omega)
      obtain ⟨us, f1, f2, f3⟩ := h3 n (by omega)
      refine ⟨vs ++ us, by rw [List.take_succ_eq_append_getElem (by omega)]; exact g1.append (.one f1 f2), fun j u hu => ?_⟩
      have hl : vs.length = n * k := by rw [g1.length, List.length_take, Nat.min_eq_left (by omega)]
      by_cases hj : j < vs.length
      · rw [List.getElem?_append_left hj] at hu
        exact g2 j u hu
      · rw [List.getElem?_append_right (by omega), hl] at hu
        have := f3 _ _ hu
        rw [show o + n * k + (j - n * k) = o + j by omega] at this
        exact this
   obtain ⟨vs, g1, g2⟩ := this l.length (Nat.le_refl _)
   rw [List.take_length] at g1
   refine ⟨_, c, vs, rfl, h1, by unfold maxLen at h2; omega, g1, fun e => by simp at e, fun ad e j u hu => ?_⟩
   simp only [Option.some.injEq] at e
   subst e
   rw [Go.WideShapes.add_plain]
   exact g2 j u hu
theorem SliceOf.of_rows {l : List α} {base : Nat} {e : TypeId} {v : Value} {xs : List Value} (h : w.ownsRow base e k v l.length xs) (hr : Rows E k w l xs) : SliceOf E k w l v := by
 obtain ⟨hl, h⟩ := h
 rcases h with ⟨rfl, hn⟩ | ⟨g, cap, cur, rfl, _, hh, h1, h2, h3, h4⟩
 · exact ⟨none, 0, by rw [hn], by omega, by unfold maxLen; omega, Or.inl (List.length_eq_zero_iff.1 hn)⟩
 · refine ⟨_, cap, rfl, h1, h2, Or.inr ⟨g, 0, rfl, fun i hi => ?_⟩⟩
   obtain ⟨vs, e1, e2, e3⟩ := hr.at i hi
   refine ⟨vs, e1, e2, fun j x hx => ?_⟩
   have := e3 j x hx
   rw [← h4, List.getElem?_take] at this
   split at this
   · simpa [World.cell?, hh] using this
   · cases this
end
theorem own_below {w w' : World} {base : Nat} {e : TypeId} {size : Nat} {v : Value} {n : Nat} {xs : List Value} (h : w.ownsRow base e size v n xs) (hb : Below w.heap.size w w') : w'.ownsRow base e size v n xs :=
 h.kept (row := none) ⟨hb.os, hb.tape, hb.output, hb.size, fun q hq _ => hb.block q hq⟩ (by
  cases h : v.ownBlock with
  | none => exact .inl rfl
  | some g => exact .inr (by simp))
section
variable {P : Program} (w : World)
theorem run_append_nilsrc (base : Nat) (t ty e : TypeId) (i : TypeInfo) (size : Nat) (ht : P.underlying t = some (.slice e)) (hi : P.info? e = some i)
 (v : Value) (n : Nat) (xs : List Value) (hown : w.ownsRow base e size v n xs) (c : Nat) : (Builtin.append_ #[t, t] ty #[v, .slice none 0 c]).run P w = .ok v w := by
 rcases hown.2 with ⟨rfl, rfl⟩ | ⟨g, cap, cur, rfl, _, _, hnc, _⟩
 · simp [Builtin.append_, run_underlying ht, sizeOf, typeInfo, hi, Builtin.lenOf, Builtin.firstCells]
 · simp [Builtin.append_, run_underlying ht, sizeOf, typeInfo, hi, Builtin.lenOf, Builtin.firstCells, hnc, storeCells]
theorem wpList_append_src {ops : Array Oper} {rest : List Oper} {o : Oper} {a : Act} {Q : Exit → Act → World → Prop} (hgd : o.guard = none) (s x : Operand) (t : TypeId)
 (ho : o.op = .call { callee := .builtin .append, args := #[s, x], argTypes := #[t, t] })
 (base : Nat) (e : TypeId) (i : TypeInfo) (z : Value) (size bytes : Nat) (ht : P.underlying t = some (.slice e)) (hi : P.info? e = some i) (hz : i.zero = some z)
 (hsize : i.size = size) (hby : i.bytes = bytes) (hzs : z.cells.size = size) (hsz : 0 < size)
 (v : Value) (n : Nat) (xs : List Value) (hs : a.eval s = v) (hown : w.ownsRow base e size v n xs)
 (p : Option Addr) (m c : Nat) (news : List Value) (hx : a.eval x = .slice p m c) (hl : news.length = m * size) (hp : p = none → m = 0)
 (hnews : ∀ ad : Addr, p = some ad → ∀ (j : Nat) (u : Value), news[j]? = some u → w.cell? (ad.add j) = some u) (h1 : ∀ u ∈ news, u.oneCell' = true)
 (h63 : n + m ≤ maxLen) (hbytes : (n + m) * bytes ≤ 140737488355328) (hbase : base ≤ w.heap.size)
 (h : ∀ v' w', w'.ownsRow base e size v' (n + m) (xs ++ news) → w.grownBy w' v.ownBlock → wpList P ops Q rest (a.put o.dst v') w') : wpList P ops Q (o :: rest) a w := by
 rcases p with _ | ad
 · have hm := hp rfl
   subst hm
   have hn : news = [] := List.eq_nil_of_length_eq_zero (by simpa using hl)
   subst hn
   refine Lib.wpList_append_run w hgd s x t t ho v (.slice none 0 c) hs hx v w (run_append_nilsrc w base t o.type e i size ht hi v n xs hown c) ?_
   exact h v w (by simpa using hown) (World.grownBy.refl w _)
 · exact wpList_append_own w hgd s x t ho base e i z size bytes ht hi hz hsize hby hzs hsz v n xs hs hown ad m c news hx hl (hnews ad rfl) h1 h63 hbytes hbase fun v' w' h2 h3 _ => h v' w' h2 h3
end
end
section
open Go.RowKit
section
variable {P : Program} {ops : Array Oper} {w : World}
theorem still_of_quiet {o : Oper} {a : Act} {K : Act → Prop} (h : o.quiet P a (fun w' => w' = w) K) : o.still P a w K := by
 obtain ⟨v, h1, h2⟩ := h
 have h3 := h1 w rfl
 unfold Oper.quietAt at h3
 unfold Oper.still
 generalize (execOp a.eval o).run P w = r at h3 ⊢
 unfold Oper.quietUpon at h3
 unfold Oper.stillUpon
 split at h3
 · obtain ⟨rfl, rfl⟩ := h3
   exact ⟨rfl, h2⟩
 · obtain ⟨rfl, rfl⟩ := h3
   exact ⟨rfl, h2⟩
 · obtain ⟨rfl, h4⟩ := h3
   exact ⟨rfl, v, h4, h2⟩
 · exact h3.elim
theorem wpStill_of_quiet {Q : Act → Prop} : ∀ (l : List Oper) (a : Act), wpQuiet P ops (fun w' => w' = w) Q l a → wpStill P ops w Q l a
 | [], _, h => h
 | o :: l, a, h => by
   unfold wpQuiet at h
   unfold wpStill
   split
   · rename_i hw
     rw [if_pos hw] at h
     exact Oper.still_mono (fun a' h' => wpStill_of_quiet l a' h') (still_of_quiet h)
   · rename_i hw
     rw [if_neg hw] at h
     exact wpStill_of_quiet l _ h
theorem wp_region_calm_tail {id : Nat} {Q : Exit → Act → World → Prop} {a : Act} {l : List Oper} (n : Nat) (hm : P.follows .mixedOrders = true) (hB : Region.lexTailB .any l.toArray n = true)
 (h : wpQuiet P l.toArray (fun w' => w' = w.drew) (fun a' => wpList P l.toArray Q (l.drop n) a' w.drew) (l.take n) a) : (Code.region id l.toArray true).wp P Q a w :=
 wp_region_still_tail n hm hB (wpStill_of_quiet _ _ h)
/-! The same over a class of worlds: what calls in the head leave behind may be any world of the class, if their values are the same in all of them. -/
variable {md : Region.Mode} {C : World → Prop}
def headQ (P : Program) (md : Region.Mode) (ops : Array Oper) (C : World → Prop) (n : Nat) (L : Array Bool → Act → Prop) : Nat → Array Bool → Act → Prop
 | 0, done, a => L done a
 | f + 1, done, a => Region.ready md ops done ≠ [] ∧ ∀ i ∈ Region.ready md ops done, i < n ∧ qOp P ops C i (headQ P md ops C n L f (done.setIfInBounds i true)) a
theorem headQ_any {n g : Nat} {L : Array Bool → Act → Prop} {Q' : Exit → Act → World → Prop} (hL : ∀ done a w, C w → L done a → wpAny P md ops Q' g done a w) :
 ∀ (f : Nat) (done : Array Bool) (a : Act) (w : World), C w → headQ P md ops C n L f done a → wpAny P md ops Q' (f + g) done a w
 | 0, done, a, w, hw, h => by rw [Nat.zero_add]; exact hL _ _ _ hw h
 | f + 1, done, a, w, hw, h => by
   rw [show f + 1 + g = (f + g) + 1 by omega]
   exact ⟨fun h0 => absurd h0 h.1, fun i hi => wpOp_of_qOp hw (fun a' w' hw' h' => headQ_any hL f _ a' w' hw' h') (h.2 i hi).2⟩
def sinkK (md : Region.Mode) (ops : Array Oper) (k0 n : Nat) : Bool :=
 (List.range n).all fun i => decide (i < k0) || (List.range (n + 1)).any fun j => decide (i < j) && Region.waitsFor md ops j i
def Early (k0 : Nat) (done : Array Bool) : Prop := ∀ i, i < k0 → done.getD i true = true ∧ done.getD i false = true
theorem Early.set {k0 j : Nat} {done : Array Bool} (h : Early k0 done) : Early k0 (done.setIfInBounds j true) := by
 intro i hi
 obtain ⟨h1, h2⟩ := h i hi
 by_cases e : j = i
 · subst e
   have hs : j < done.size := by
    apply Decidable.byContradiction
    intro hn
    rw [Array.getD_eq_getD_getElem?, Array.getElem?_eq_none (by omega)] at h2
    cases h2
   constructor <;> simp [hs]
 · exact ⟨by rw [getD_set_ne true e]; exact h1, by rw [getD_set_ne false e]; exact h2⟩
theorem tail_waitsK {k0 n : Nat} {done : Array Bool} (hs : sinkK md ops k0 n = true) (hc : Region.chainB md ops n = true) (hn : n < ops.size) (inv : HeadInv md ops n done) (he : Early k0 done) :
 ∀ (d i : Nat), n - i = d → i < n → done.getD i true = false → ∀ t, n ≤ t → t ∉ Region.ready md ops done := by
 intro d
 induction d using Nat.strongRecOn with
 | _ d ih =>
   intro i hd hi hun t ht hr
   have hik : ¬ i < k0 := fun h => by rw [(he i h).1] at hun; cases hun
   obtain ⟨_, ot, hot, hall⟩ := mem_ready.1 hr
   have htlt : t < ops.size := (Array.getElem?_eq_some_iff.1 hot).1
   by_cases htn : t = n
   · subst htn
     have h1 := List.all_eq_true.1 hs i (List.mem_range.2 hi)
     rw [Bool.or_eq_true, decide_eq_true_eq] at h1
     obtain ⟨j, hj, hj2⟩ := List.any_eq_true.1 (h1.resolve_left hik)
     simp only [Bool.and_eq_true, decide_eq_true_eq] at hj2
     obtain ⟨oj, hoj, e, hel, hb, hon⟩ := Region.waitsFor_spec hj2.2
     have hjle : j ≤ t := by have := List.mem_range.1 hj; omega
     by_cases hjt : j = t
     · subst hjt
       have : oj = ot := Option.some.inj (hoj.symm.trans hot)
       subst this
       have h2 := hall e hel hb
       rw [hon, getD_both hun] at h2
       cases h2
     · cases hl : done.getD j false with
       | true =>
         have h2 := inv.closed j oj hoj hl e hel hb
         rw [hon, getD_both hun] at h2
         cases h2
       | false =>
         have hjs : j < done.size := by rw [inv.size]; omega
         exact ih (t - j) (by omega) j rfl (by omega) (getD_in hjs hl) t (Nat.le_refl _) hr
   · have h1 := List.all_eq_true.1 hc t (List.mem_range.2 htlt)
     simp only [Bool.or_eq_true, decide_eq_true_eq] at h1
     rcases h1 with h1 | h1
     · omega
     · obtain ⟨o', ho', e, hel, hb, hon⟩ := Region.waitsFor_spec h1
       have : o' = ot := Option.some.inj (ho'.symm.trans hot)
       subst this
       have h2 := hall e hel hb
       rw [hon, getD_both (inv.tail (t - 1) (by omega) (by omega))] at h2
       cases h2
theorem headQ_first {k0 n i : Nat} {oi : Oper} {v : Value} {L : Array Bool → Act → Prop} (hi : ops[i]? = some oi) (hsel : ∀ (j : Nat) (o : Oper) cs b, ops[j]? = some o → o.op ≠ .select cs b)
 (hs : sinkK md ops k0 n = true) (hc : Region.chainB md ops n = true) (hn : n < ops.size) (hin : i < n) (hend : ∀ done a, L done a → ∀ j ∈ Region.ready md ops done, n ≤ j) :
 ∀ (f : Nat) (done : Array Bool) (a : Act), HeadInv md ops n done → Early k0 done →
   (∀ j oj, ops[j]? = some oj → j ≠ i → done.getD j true = false → (∀ e ∈ oj.after, Region.binds md e = true → e.on ≠ i) → oi.apart ops oj = true) →
   i ∈ Region.ready md ops done → YieldsIn P ops C oi v a →
   headQ P md ops C n L f (done.setIfInBounds i true) (a.put oi.dst v) → headQ P md ops C n L (f + 1) done a := by
 intro f
 induction f with
 | zero =>
   intro done a inv he _ hr hy H
   have open_i := (mem_ready.1 hr).1
   refine ⟨List.ne_nil_of_mem hr, fun j hj => ?_⟩
   have hjn : j < n := Nat.lt_of_not_le fun h => tail_waitsK hs hc hn inv he _ i rfl hin open_i j h hj
   by_cases hji : j = i
   · subst hji; exact ⟨hjn, hy.qOp hi H⟩
   · exact absurd (hend _ _ H j (ready_mono hj hji)) (by omega)
 | succ f ih =>
   intro done a inv he hfree hr hy H
   have open_i := (mem_ready.1 hr).1
   refine ⟨List.ne_nil_of_mem hr, fun j hj => ?_⟩
   have hjn : j < n := Nat.lt_of_not_le fun h => tail_waitsK hs hc hn inv he _ i rfl hin open_i j h hj
   by_cases hji : j = i
   · subst hji; exact ⟨hjn, hy.qOp hi H⟩
   · have next := (H.2 j (ready_mono hj hji)).2
     obtain ⟨open_j, oj, hoj, hall⟩ := mem_ready.1 hj
     have hnot : ∀ e ∈ oj.after, Region.binds md e = true → e.on ≠ i := fun e he hb heq => by
      have h1 := hall e he hb
      rw [heq, getD_both open_i] at h1
      cases h1
     have moved := qOp_put hoj (hfree j oj hoj hji open_j hnot) (fun cs b => hsel i oi cs b hi) (fun cs b => hsel j oj cs b hoj) hy next
     refine ⟨hjn, qOp_mono (fun a' h3 => ih (done.setIfInBounds j true) a' (inv.set hj hjn) he.set (fun k ok hk hki hun hno => ?_) (ready_mono hr (Ne.symm hji)) h3.1 ?_) moved⟩
     · refine hfree k ok hk hki ?_ hno
       by_cases hjk : j = k
       · subst hjk; exact open_j
       · rw [getD_set_ne true hjk] at hun; exact hun
     · rw [Array.setIfInBounds_comm _ _ hji]
       exact h3.2
theorem headQ_lex {k0 n g : Nat} {Lq : Act → Prop} (hsel : Region.noSelect ops = true) (hs : sinkK md ops k0 n = true) (hc : Region.chainB md ops n = true) (hn : n < ops.size) :
 ∀ (l : List Oper) (k : Nat) (done : Array Bool) (a : Act), (∀ j, j < l.length → l[j]? = ops[k + j]?) → k + l.length = n → HeadInv md ops n done → Early k0 done →
 Region.lexHead md ops g l.length k done = true → wpQuiet P ops C Lq l a →
 headQ P md ops C n (fun done' a' => Region.seqB md ops g n done' = true ∧ Lq a') l.length done a
 | [], k, done, a, _, hk, _, _, hB, h => by
   have : k = n := by simpa using hk
   subst this
   exact ⟨by simpa [Region.lexHead] using hB, h⟩
 | o :: l, k, done, a, hl, hk, inv, he, hB, h => by
   have h0 : ops[k]? = some o := by simpa using (hl 0 (by simp)).symm
   simp only [List.length_cons, Region.lexHead, Bool.and_eq_true] at hB
   simp only [List.length_cons] at hk
   have hr : k ∈ Region.ready md ops done := by simpa using hB.1.1
   have hst : qOp P ops C k (wpQuiet P ops C Lq l) a := by unfold qOp; simp only [h0]; exact h
   obtain ⟨v, hy, hK⟩ := yieldsIn_of_qOp h0 hst
   exact headQ_first h0 (Region.noSelect_spec hsel) hs hc hn (by omega) (fun done' a' hL => seqB_ready hL.1) l.length done a inv he (Region.free_spec h0 hB.1.2) hr hy
    (headQ_lex hsel hs hc hn l (k + 1) _ _ (fun j hj => by have := hl (j + 1) (by simp; omega); simpa [Nat.add_assoc, Nat.add_comm 1 j] using this) (by omega) (inv.set hr (by omega)) he.set hB.2 hK)
theorem wpAny_mild {Q : Exit → Act → World → Prop} {a : Act} {l : List Oper} (k0 n : Nat) (D : Array Bool) (C : World → Prop) (hk : k0 ≤ n) (hsel : Region.noSelect l.toArray = true) (hn : n < l.toArray.size)
 (hs : sinkK .any l.toArray k0 n = true) (hc : Region.chainB .any l.toArray n = true) (inv0 : HeadInv .any l.toArray n D) (he : Early k0 D)
 (hlex : Region.lexHead .any l.toArray (l.toArray.size - n) (n - k0) k0 D = true) (hC : C w)
 (h : wpQuiet P l.toArray C (fun a' => ∀ w', C w' → wpList P l.toArray Q (l.drop n) a' w') ((l.take n).drop k0) a) : wpAny P .any l.toArray Q (l.toArray.size - k0) D a w := by
 have hn' : n < l.length := by simpa using hn
 have htl : ((l.take n).drop k0).length = n - k0 := by rw [List.length_drop, List.length_take, Nat.min_eq_left (by omega)]
 have hdl : (l.drop n).length = l.toArray.size - n := by simp
 have H := headQ_lex (P := P) (C := C) (md := .any) (k0 := k0) (g := l.toArray.size - n) hsel hs hc hn ((l.take n).drop k0) k0 D a (fun j hj => by
  rw [htl] at hj
  rw [List.getElem?_drop, List.getElem?_take, if_pos (by omega)]
  simp) (by rw [htl]; omega) inv0 he (by rw [htl]; exact hlex) h
 have := headQ_any (Q' := Q) (g := l.toArray.size - n) (fun done a' w' hw' hL => by
  have := wpAny_of_seq (md := .any) (Q' := Q) (l.drop n) n done a' w' (fun j => by simp [List.getElem?_drop]) (by rw [hdl]; exact hL.1) (hL.2 w' hw')
  rwa [hdl] at this) _ _ _ w hC H
 rw [htl, show n - k0 + (l.toArray.size - n) = l.toArray.size - k0 by simp; omega] at this
 exact this
theorem headInv_start (l : List Oper) (n : Nat) : HeadInv .any l.toArray n (Array.replicate l.toArray.size false) :=
 ⟨by simp, fun j oj _ hl => (by rw [getD_replicate_false] at hl; cases hl), fun t _ ht => getD_in (by simpa using ht) (getD_replicate_false _ _)⟩
def mildB (l : List Oper) (n : Nat) : Bool :=
 Region.noSelect l.toArray && decide (n < l.toArray.size) && sinkK .any l.toArray 0 n && Region.chainB .any l.toArray n && Region.lexHead .any l.toArray (l.toArray.size - n) n 0 (Array.replicate l.toArray.size false)
theorem wp_region_mild_tail {id : Nat} {Q : Exit → Act → World → Prop} {a : Act} {l : List Oper} (n : Nat) (C : World → Prop) (hm : P.follows .mixedOrders = true) (hB : mildB l n = true) (hC : C w.drew)
 (h : wpQuiet P l.toArray C (fun a' => ∀ w', C w' → wpList P l.toArray Q (l.drop n) a' w') (l.take n) a) : (Code.region id l.toArray true).wp P Q a w := by
 simp only [mildB, Bool.and_eq_true, decide_eq_true_eq] at hB
 obtain ⟨⟨⟨⟨hsel, hn⟩, hs⟩, hc⟩, hlex⟩ := hB
 exact wp_region_any hm (wpAny_mild (w := w.drew) 0 n _ C (Nat.zero_le _) hsel hn hs hc (headInv_start l n) (fun i hi => absurd hi (Nat.not_lt_zero _)) hlex hC h)
def movedB (l : List Oper) (n : Nat) : Bool :=
 Region.noSelect l.toArray && decide (n < l.toArray.size) && sinkK .any l.toArray 1 n && Region.chainB .any l.toArray n && decide (1 ≤ n) &&
  (Region.ready .any l.toArray (Array.replicate l.toArray.size false)).contains 0 && Region.free .any l.toArray (Array.replicate l.toArray.size false) 0 &&
  Region.lexHead .any l.toArray (l.toArray.size - n) (n - 1) 1 ((Array.replicate l.toArray.size false).setIfInBounds 0 true)
theorem wp_region_moved_tail {id : Nat} {Q : Exit → Act → World → Prop} {a : Act} {o : Oper} {l : List Oper} {x : Operand} (n : Nat) (C : World → Prop) (hm : P.follows .mixedOrders = true) (ho : o.op = .move x) (hg : o.guard = none)
 (hQ : ∀ c (a' : Act) v w, Q (.panic c) (a'.put o.dst v) w → Q (.panic c) a' w) (hB : movedB (o :: l) n = true) (hC : C w.drew)
 (h : wpQuiet P (o :: l).toArray C (fun a' => ∀ w', C w' → wpList P (o :: l).toArray Q ((o :: l).drop n) a' w') (((o :: l).take n).drop 1) (a.put o.dst (a.eval x))) : (Code.region id (o :: l).toArray true).wp P Q a w := by
 simp only [movedB, Bool.and_eq_true, decide_eq_true_eq] at hB
 obtain ⟨⟨⟨⟨⟨⟨⟨hsel, hn⟩, hs⟩, hc⟩, h1⟩, hr⟩, hf⟩, hlex⟩ := hB
 have hr' : 0 ∈ Region.ready .any (o :: l).toArray (Array.replicate (o :: l).toArray.size false) := by simpa using hr
 have hsz : (o :: l).toArray.size = ((o :: l).toArray.size - 1) + 1 := by simp
 refine wp_region_any hm ?_
 rw [hsz]
 refine wpAny_first (i := 0) (oi := o) (v := a.eval x) (by simp) (Region.noSelect_spec hsel) (fun c a' w' h' => hQ c a' _ w' h') _ _ _ _ (Region.free_spec (by simp) hf) hr' (.inl ⟨by simp [Region.wanted, hg], fun w' => BigFrame.run_move x ho w'⟩) ?_
 · exact wpAny_mild (w := w.drew) 1 n _ C h1 hsel hn hs hc ((headInv_start (o :: l) n).set hr' (by omega)) (fun i hi => by
    have : i = 0 := by omega
    subst this
    simp) hlex hC h
end
theorem exists_ext (W : World) : ∃ ext : World → World, (∀ x, Below W.heap.size W (ext x)) ∧ ∀ w', Below W.heap.size W w' → w' = ext w' := by
 classical
 refine ⟨fun x => if Below W.heap.size W x then x else W, fun x => ?_, fun w' h => ?_⟩
 · show Below W.heap.size W (if Below W.heap.size W x then x else W)
   split
   · assumption
   · exact Below.refl _ _
 · show w' = if Below W.heap.size W w' then w' else W
   rw [if_pos h]
end
section
open Go.RowKit
abbrev Tok := Int × Int × Txt
def tokE : Enc Tok := Both num (Both num txt)
theorem tok_stays : Stays tokE := Both.stays (One.stays _) (Both.stays (One.stays _) (One.stays _))
abbrev Toks (w : World) (l : List Tok) (v : Value) : Prop := SliceOf tokE 3 w l v
theorem Toks.stays {w w' : World} (hk : Keeps w w') {l : List Tok} {v : Value} (h : Toks w l v) : Toks w' l v := SliceOf.stays tok_stays hk h
theorem Toks.cells {w : World} {l : List Tok} {v : Value} (h : Toks w l v) :
 ∃ b o c p, v = .slice p l.length c ∧ l.length ≤ c ∧ c ≤ 9223372036854775807 ∧ (0 < l.length → p = some ⟨b, o, none⟩) ∧
   ∀ (i : Nat) (h : i < l.length), w.cell? ⟨b, o + i * 3, none⟩ = some (.int .i64 l[i].1) ∧ w.cell? ⟨b, o + i * 3 + 1, none⟩ = some (.int .i64 l[i].2.1) ∧ w.cell? ⟨b, o + i * 3 + 2, none⟩ = some (.string l[i].2.2) := by
 obtain ⟨p, c, e, h1, h2, h3⟩ := h
 unfold maxLen at h2
 rcases h3 with rfl | ⟨b, o, hp, h3⟩
 · exact ⟨0, 0, c, p, e, h1, by omega, fun h => absurd h (by simp), fun i h => absurd h (by simp)⟩
 · refine ⟨b, o, c, p, e, h1, by omega, fun _ => hp, fun i hi => ?_⟩
   obtain ⟨vs, ⟨us, us', e1, e2, ⟨us2, us3, e4, e5, e6⟩⟩, g2, g3⟩ := h3 i hi
   have e2' : us = [.int .i64 l[i].1] := e2
   have e5' : us2 = [.int .i64 l[i].2.1] := e5
   have e6' : us3 = [.string l[i].2.2] := e6
   subst e2' e5' e6' e4 e1
   exact ⟨by simpa using g3 0 _ rfl, by simpa using g3 1 _ rfl, by simpa using g3 2 _ rfl⟩
theorem Tryz.info_token : (Tryz.prog.info? 183).map (fun i => (i.zero, i.size, i.bytes)) = some (some (.agg #[.int .i64 0, .int .i64 0, .string ByteArray.empty]), 3, 32) := by kernel_rfl
def tokCells (x : Tok) : List Value := [.int .i64 x.1, .int .i64 x.2.1, .string x.2.2]
theorem tok_rows (w : World) : ∀ x : List Tok, Rows tokE 3 w x (x.flatMap tokCells)
 | [] => rfl
 | y :: x => ⟨tokCells y, x.flatMap tokCells, rfl, ⟨[.int .i64 y.1], _, rfl, rfl, ⟨[.int .i64 y.2.1], [.string y.2.2], rfl, rfl, rfl⟩⟩, rfl, tok_rows w x⟩
inductive Step where
 | skip (n : Nat)
 | tok (k : Int) (t : Txt)
 | bad (c : Int)
def signOf (s : Txt) (a : Nat) : Step := match signsL.find? (signAt s a) with
 | some x => .tok 4 x
 | none => .bad 1
def wordOf (t : Txt) : Step := if isWord t then .tok 3 t else if isName t then .tok 1 t else .bad 2
def numOf (c : Int) (t : Txt) : Step := if 9 < t.size then .bad 3 else if 1 < t.size ∧ c = 48 then .bad 3 else .tok 2 t
def stepOf (s : Txt) (a : Nat) (c : Int) : Step :=
 if c == 32 then .skip 1 else if c == 9 then .skip 1 else if c == 10 then .skip 1
 else if c == 35 then .skip (runEnd noteB s a - a)
 else if letterB c then wordOf (s.extract a (runEnd wordB s a))
 else if digitB c then numOf c (s.extract a (runEnd digitB s a))
 else signOf s a
def scanGo (s : Txt) : Nat → Nat → List Tok → List Tok × Int × Int
 | 0, _, l => (l, 0, 0)
 | f + 1, a, l =>
   if h : a < s.size then
    match stepOf s a (s[a].toNat) with
    | .skip n => scanGo s f (a + n) l
    | .bad c => ([], c, a)
    | .tok k t => if l.length = 600 then ([], 2, a) else scanGo s f (a + t.size) (l ++ [(k, (a : Int), t)])
   else (l, 0, 0)
def scanOf (s : Txt) : List Tok × Int × Int := if 4000 < s.size then ([], 2, 0) else scanGo s s.size 0 []
theorem scanGo_end {s : Txt} {f a : Nat} {l : List Tok} (h : ¬ a < s.size) : scanGo s f a l = (l, 0, 0) := by
 cases f with
 | zero => rfl
 | succ f => unfold scanGo; rw [dif_neg h]
theorem scanGo_skip {s : Txt} {f a n : Nat} {l : List Tok} (h : a < s.size) (e : stepOf s a (s[a].toNat) = .skip n) : scanGo s (f + 1) a l = scanGo s f (a + n) l := by
 rw [scanGo, dif_pos h, e]
theorem scanGo_bad {s : Txt} {f a : Nat} {c : Int} {l : List Tok} (h : a < s.size) (e : stepOf s a (s[a].toNat) = .bad c) : scanGo s (f + 1) a l = ([], c, (a : Int)) := by
 rw [scanGo, dif_pos h, e]
theorem scanGo_many {s : Txt} {f a : Nat} {k : Int} {t : Txt} {l : List Tok} (h : a < s.size) (e : stepOf s a (s[a].toNat) = .tok k t) (hl : l.length = 600) : scanGo s (f + 1) a l = ([], 2, (a : Int)) := by
 rw [scanGo, dif_pos h, e]
 simp only
 rw [if_pos hl]
theorem scanGo_tok {s : Txt} {f a : Nat} {k : Int} {t : Txt} {l : List Tok} (h : a < s.size) (e : stepOf s a (s[a].toNat) = .tok k t) (hl : ¬ l.length = 600) : scanGo s (f + 1) a l = scanGo s f (a + t.size) (l ++ [(k, (a : Int), t)]) := by
 rw [scanGo, dif_pos h, e]
 simp only
 rw [if_neg hl]
def AtBox (w : World) (g : Nat) (k : Int) : Prop := w.heap[g]? = some (.cells #[.int .i64 k] 3 (0, 0))
def TokBox (w : World) (tb : Nat) (kd a : Int) (t : Txt) : Prop := w.heap[tb]? = some (.cells #[.int .i64 kd, .int .i64 a, .string t] 183 (0, 0))
theorem AtBox.cell {w : World} {g : Nat} {k : Int} (h : AtBox w g k) : w.cell? ⟨g, 0, none⟩ = some (.int .i64 k) := cell_of_one h
theorem AtBox.free {w : World} {g : Nat} {k : Int} (h : AtBox w g k) : w.frozen? ⟨g, 0, none⟩ = false := free_of_one h
theorem AtBox.lt {w : World} {g : Nat} {k : Int} (h : AtBox w g k) : g < w.heap.size := lt_of_block h
theorem AtBox.set {w : World} {g : Nat} {k : Int} (h : AtBox w g k) (k' : Int) : AtBox (w.setCell ⟨g, 0, none⟩ (.int .i64 k')) g k' := one_setCell h
theorem AtBox.other {w : World} {g : Nat} {k : Int} (h : AtBox w g k) {a : Addr} (ha : g ≠ a.block) (u : Value) : AtBox (w.setCell a u) g k := by
 unfold AtBox; rw [Below.heap_setCell _ _ _ _ ha]; exact h
theorem AtBox.below {w w' : World} {g : Nat} {k : Int} (h : AtBox w g k) (hb : Below w.heap.size w w') : AtBox w' g k := by
 unfold AtBox; rw [hb.block _ h.lt]; exact h
theorem AtBox.new (w : World) (k : Int) : AtBox (w.alloc (.cells #[.int .i64 k] 3)) w.heap.size k := heap_alloc_new _ _
theorem TokBox.lt {w : World} {tb : Nat} {kd a : Int} {t : Txt} (h : TokBox w tb kd a t) : tb < w.heap.size := lt_of_block h
theorem TokBox.cell0 {w : World} {tb : Nat} {kd a : Int} {t : Txt} (h : TokBox w tb kd a t) : w.cell? ⟨tb, 0, none⟩ = some (.int .i64 kd) := by unfold TokBox at h; simp [World.cell?, h]
theorem TokBox.cell1 {w : World} {tb : Nat} {kd a : Int} {t : Txt} (h : TokBox w tb kd a t) : w.cell? ⟨tb, 1, none⟩ = some (.int .i64 a) := by unfold TokBox at h; simp [World.cell?, h]
theorem TokBox.cell2 {w : World} {tb : Nat} {kd a : Int} {t : Txt} (h : TokBox w tb kd a t) : w.cell? ⟨tb, 2, none⟩ = some (.string t) := by unfold TokBox at h; simp [World.cell?, h]
theorem TokBox.free {w : World} {tb : Nat} {kd a : Int} {t : Txt} (h : TokBox w tb kd a t) (j : Nat) : w.frozen? ⟨tb, j, none⟩ = false := by unfold TokBox at h; simp [World.frozen?, h]
theorem TokBox.below {w w' : World} {tb : Nat} {kd a : Int} {t : Txt} (h : TokBox w tb kd a t) (hb : Below w.heap.size w w') : TokBox w' tb kd a t := by
 unfold TokBox; rw [hb.block _ h.lt]; exact h
theorem tok_setCell {w : World} {tb : Nat} {kd a : Int} {t : Txt} (h : TokBox w tb kd a t) (j : Nat) (u : Value) : (w.setCell ⟨tb, j, none⟩ u).heap[tb]? = some (.cells (#[.int .i64 kd, .int .i64 a, .string t].setIfInBounds j u) 183 (0, 0)) := by
 have hlt := h.lt
 have h' : w.heap[tb] = .cells #[.int .i64 kd, .int .i64 a, .string t] 183 (0, 0) := by unfold TokBox at h; simpa [Array.getElem?_eq_getElem hlt] using h
 show (w.heap.modify tb _)[tb]? = _
 rw [Array.getElem?_eq_getElem (by simpa using hlt), Array.getElem_modify_self, h']
 rfl
theorem TokBox.set0 {w : World} {tb : Nat} {kd a : Int} {t : Txt} (h : TokBox w tb kd a t) (k' : Int) : TokBox (w.setCell ⟨tb, 0, none⟩ (.int .i64 k')) tb k' a t := tok_setCell h 0 _
theorem TokBox.set2 {w : World} {tb : Nat} {kd a : Int} {t : Txt} (h : TokBox w tb kd a t) (t' : Txt) : TokBox (w.setCell ⟨tb, 2, none⟩ (.string t')) tb kd a t' := tok_setCell h 2 _
theorem TokBox.new (w : World) (kd a : Int) (t : Txt) : TokBox (w.alloc (.cells #[.int .i64 kd, .int .i64 a, .string t] 183)) w.heap.size kd a t := heap_alloc_new _ _
structure Scn (N : Nat) (W w : World) (g : Nat) (k : Int) (v : Value) (l : List Tok) : Prop where
 below : Below N W w
 box : AtBox w g k
 ge : N ≤ g
 row : w.ownsRow N 183 3 v l.length (l.flatMap tokCells)
 ne : v.ownBlock ≠ some g
theorem Scn.sub {N : Nat} {W w w' : World} {g : Nat} {k : Int} {v : Value} {l : List Tok} (h : Scn N W w g k v l) (hN : N ≤ w.heap.size) (hb : Below w.heap.size w w') : Scn N W w' g k v l :=
 ⟨h.below.trans (hb.mono hN), h.box.below hb, h.ge, own_below h.row hb, h.ne⟩
theorem Scn.setAt {N : Nat} {W w : World} {g : Nat} {k : Int} {v : Value} {l : List Tok} (h : Scn N W w g k v l) (k' : Int) : Scn N W (w.setCell ⟨g, 0, none⟩ (.int .i64 k')) g k' v l :=
 ⟨h.below.setCell h.ge _, h.box.set k', h.ge, ownsRow_setCell_other h.row h.ne _, h.ne⟩
theorem Scn.other {N : Nat} {W w : World} {g : Nat} {k : Int} {v : Value} {l : List Tok} (h : Scn N W w g k v l) {a : Addr} (h1 : N ≤ a.block) (h2 : g ≠ a.block) (h3 : v.ownBlock ≠ some a.block) (u : Value) : Scn N W (w.setCell a u) g k v l :=
 ⟨h.below.setCell h1 _, h.box.other h2 _, h.ge, ownsRow_setCell_other h.row h3 _, h.ne⟩
theorem Scn.newAt {N : Nat} {W w : World} {g : Nat} {k : Int} {v : Value} {l : List Tok} (h : Scn N W w g k v l) (hN : N ≤ w.heap.size) : Scn N W (w.alloc (.cells #[.int .i64 k] 3)) w.heap.size k v l :=
 ⟨h.below.alloc hN _, AtBox.new _ _, hN, h.row.alloc _, fun e => by have := (h.row.lt _ e).2; omega⟩
theorem Scn.append {N : Nat} {W w : World} {g : Nat} {k : Int} {v : Value} {l : List Tok} (h : Scn N W w g k v l) (hN : N ≤ w.heap.size) (x : Tok) (o : Obj) {v' : Value} {w' : World}
 (hown : w'.ownsRow N 183 3 v' (l.length + 1) (l.flatMap tokCells ++ tokCells x)) (hgrow : (w.alloc o).grownBy w' v.ownBlock) (hob : v'.ownBlock = v.ownBlock ∨ v'.ownBlock = some (w.heap.size + 1)) : Scn N W w' g k v' (l ++ [x]) := by
 have hlt := h.box.lt
 refine ⟨(h.below.alloc hN o).grown hgrow (by simp; omega) (fun q hq => (h.row.lt q hq).1), ?_, h.ge, ?_, ?_⟩
 · unfold AtBox
   rw [hgrow.block g (by simp; omega) (fun e => h.ne e.symm), Below.heap_alloc _ _ _ hlt]
   exact h.box
 · rw [List.length_append, List.flatMap_append]
   simpa using hown
 · rcases hob with e | e
   · rw [e]; exact h.ne
   · rw [e]
     intro e2
     have := Option.some.inj e2
     omega
theorem TokBox.append {w : World} {tb : Nat} {kd a : Int} {t : Txt} (h : TokBox w tb kd a t) {v : Value} (hne : v.ownBlock ≠ some tb) (o : Obj) {w' : World} (hgrow : (w.alloc o).grownBy w' v.ownBlock) : TokBox w' tb kd a t := by
 have hlt := h.lt
 unfold TokBox
 rw [hgrow.block tb (by simp; omega) (fun e => hne e.symm), Below.heap_alloc _ _ _ hlt]
 exact h
end
section
open Go.RowKit
inductive Ex where
 | mk (kind at_ n ty : Int) (name : Txt) (l : Lab) (a : List Ex)
def Ex.kind : Ex → Int | .mk k _ _ _ _ _ _ => k
def Ex.at_ : Ex → Int | .mk _ a _ _ _ _ _ => a
def Ex.num : Ex → Int | .mk _ _ n _ _ _ _ => n
def Ex.ty : Ex → Int | .mk _ _ _ t _ _ _ => t
def Ex.name : Ex → Txt | .mk _ _ _ _ s _ _ => s
def Ex.lab : Ex → Lab | .mk _ _ _ _ _ l _ => l
def Ex.kids : Ex → List Ex | .mk _ _ _ _ _ _ a => a
def Ex.zero : Ex := .mk 0 0 0 0 ⟨#[]⟩ [] []
inductive ExR (w : World) : Ex → List Value → Prop
 | mk (kind at_ n ty : Int) (name : Txt) (l : Lab) (a : List Ex) (vl : Value) (p : Option Addr) (c b o : Nat) (rows : Nat → List Value) (hl : Lbl w l vl) (hc : a.length ≤ c) (hm : c ≤ maxLen) (hp : a ≠ [] → p = some ⟨b, o, none⟩)
  (hr : ∀ (i : Nat) (h : i < a.length), ExR w a[i] (rows i)) (hn : ∀ i, i < a.length → (rows i).length = 7)
  (hx : ∀ i, i < a.length → ∀ j x, (rows i)[j]? = some x → w.cell? ⟨b, o + i * 7 + j, none⟩ = some x) :
  ExR w (.mk kind at_ n ty name l a) [.int .i64 kind, .int .i64 at_, .int .i64 n, .int .i64 ty, .string name, vl, .slice p a.length c]
def exE : Enc Ex := fun w x vs => ExR w x vs
theorem exE_stays : Stays exE := by
 intro w w' x vs hk h
 induction h with
 | mk kind at_ n ty name l a vl p c b o rows hl hc hm hp hr hn hx ih =>
   exact .mk kind at_ n ty name l a vl p c b o rows (hl.stays hk) hc hm hp ih hn fun i hi j x e => hk.2 _ _ _ (hx i hi j x e)
abbrev Exs (w : World) (l : List Ex) (v : Value) : Prop := SliceOf exE 7 w l v
theorem Exs.stays {w w' : World} (hk : Keeps w w') {l : List Ex} {v : Value} (h : Exs w l v) : Exs w' l v := SliceOf.stays exE_stays hk h
theorem exE_mk {w : World} {kind at_ n ty : Int} {name : Txt} {l : Lab} {a : List Ex} {vl va : Value} (hl : Lbl w l vl) (ha : Exs w a va) : exE w (.mk kind at_ n ty name l a) [.int .i64 kind, .int .i64 at_, .int .i64 n, .int .i64 ty, .string name, vl, va] := by
 obtain ⟨p, c, rfl, h1, h2, h3⟩ := ha
 rcases h3 with rfl | ⟨b, o, hp, h3⟩
 · exact .mk kind at_ n ty name l [] vl p c 0 0 (fun _ => []) hl h1 h2 (fun h => absurd rfl h) (fun i h => nomatch h) (fun i h => nomatch h) (fun i h => nomatch h)
 · have hrows : ∃ rows : Nat → List Value, ∀ (i : Nat) (h : i < a.length), ExR w a[i] (rows i) ∧ (rows i).length = 7 ∧ ∀ j x, (rows i)[j]? = some x → w.cell? ⟨b, o + i * 7 + j, none⟩ = some x :=
    ⟨fun i => if h : i < a.length then (h3 i h).choose else [], fun i h => by
      have := (h3 i h).choose_spec
      simp only [dif_pos h]
      exact this⟩
   obtain ⟨rows, hrows⟩ := hrows
   exact .mk kind at_ n ty name l a vl p c b o rows hl h1 h2 (fun _ => hp) (fun i h => (hrows i h).1) (fun i h => (hrows i h).2.1) (fun i h => (hrows i h).2.2)
theorem exE_out {w : World} {x : Ex} {vs : List Value} (h : exE w x vs) : ∃ vl va, vs = [.int .i64 x.kind, .int .i64 x.at_, .int .i64 x.num, .int .i64 x.ty, .string x.name, vl, va] ∧ Lbl w x.lab vl ∧ Exs w x.kids va := by
 cases h with
 | mk kind at_ n ty name l a vl p c b o rows hl hc hm hp hr hn hx =>
   refine ⟨vl, _, rfl, hl, p, c, rfl, hc, hm, ?_⟩
   by_cases ha : a = []
   · exact .inl ha
   · exact .inr ⟨b, o, hp ha, fun i hi => ⟨rows i, hr i hi, hn i hi, hx i hi⟩⟩
def ExIs (w : World) (x : Ex) (v : Value) : Prop := ∃ vl va, v = .agg #[.int .i64 x.kind, .int .i64 x.at_, .int .i64 x.num, .int .i64 x.ty, .string x.name, vl, va] ∧ Lbl w x.lab vl ∧ Exs w x.kids va
theorem ExIs.stays {w w' : World} (hk : Keeps w w') {x : Ex} {v : Value} (h : ExIs w x v) : ExIs w' x v := by
 obtain ⟨vl, va, e, h1, h2⟩ := h
 exact ⟨vl, va, e, h1.stays hk, h2.stays hk⟩
theorem ExIs.row {w : World} {x : Ex} {v : Value} (h : ExIs w x v) : ∃ vl va, v = .agg #[.int .i64 x.kind, .int .i64 x.at_, .int .i64 x.num, .int .i64 x.ty, .string x.name, vl, va] ∧ exE w x [.int .i64 x.kind, .int .i64 x.at_, .int .i64 x.num, .int .i64 x.ty, .string x.name, vl, va] := by
 obtain ⟨vl, va, e, h1, h2⟩ := h
 refine ⟨vl, va, e, ?_⟩
 obtain ⟨kind, at_, n, ty, name, l, a⟩ := x
 exact exE_mk h1 h2
inductive Rs (α : Type) where
 | ok (x : α) (k : Nat)
 | bad (c a : Int)
def Rs.bind {α β : Type} (r : Rs α) (f : α → Nat → Rs β) : Rs β := match r with
 | .ok x k => f x k
 | .bad c a => .bad c a
section
variable (T : List Tok) (E : Int)
def tkAt (k : Nat) : Int := match T[k]? with
 | some t => t.2.1
 | none => E
def tkNext (k : Nat) : Tok := (T[k]?).getD (0, 0, ⟨#[]⟩)
def tkIs (k : Nat) (s : Txt) : Bool := ((tkNext T k).1 == 3 || (tkNext T k).1 == 4) && (tkNext T k).2.2 == s
def failP {α : Type} (c : Int) (k : Nat) : Rs α := .bad c (tkAt T E k)
def mustP (s : Txt) (k : Nat) : Rs Unit := if tkIs T k s then .ok () (k + 1) else failP T E 1 k
def nameP (k : Nat) : Rs Txt := if (tkNext T k).1 = 1 then .ok (tkNext T k).2.2 (k + 1) else failP T E 1 k
def listGo {α : Type} (one : Nat → Rs α) (most : Nat) (sign : Txt) : Nat → List α → Nat → Rs (List α)
 | 0, l, k => .ok l k
 | f + 1, l, k => if tkIs T k sign then (if l.length = most then failP T E 2 k else (one (k + 1)).bind fun x k' => listGo one most sign f (l ++ [x]) k') else .ok l k
def listP {α : Type} (one : Nat → Rs α) (most : Nat) (sign : Txt) (k : Nat) : Rs (List α) := (one k).bind fun x k' => listGo T E one most sign most [x] k'
def tOpen : Txt := ⟨#[123]⟩
def tShut : Txt := ⟨#[125]⟩
def tColon : Txt := ⟨#[58]⟩
def tSemi : Txt := ⟨#[59]⟩
def tComma : Txt := ⟨#[44]⟩
def tLeft : Txt := ⟨#[40]⟩
def tRight : Txt := ⟨#[41]⟩
def tMinus : Txt := ⟨#[45]⟩
def tNot : Txt := ⟨#[33]⟩
def tTrue : Txt := ⟨#[116, 114, 117, 101]⟩
def tFalse : Txt := ⟨#[102, 97, 108, 115, 101]⟩
def tRelease : Txt := ⟨#[114, 101, 108, 101, 97, 115, 101]⟩
def tTo : Txt := ⟨#[116, 111]⟩
def polP (k : Nat) : Rs Pol := (nameP T E k).bind fun o k1 => (mustP T E tColon k1).bind fun _ k2 =>
 if (tkNext T k2).1 = 1 then (listP T E (nameP T E) 6 tComma k2).bind fun rs k3 => .ok (o, rs) k3 else .ok (o, []) k2
def labelP (k : Nat) : Rs Lab := (mustP T E tOpen k).bind fun _ k1 =>
 if tkIs T k1 tShut then .ok [] (k1 + 1) else (listP T E (polP T E) 200 tSemi k1).bind fun l k2 => (mustP T E tShut k2).bind fun _ k3 => .ok l k3
def levelT : Txt → Int := fun s =>
 if s = ⟨#[124, 124]⟩ then 1 else if s = ⟨#[38, 38]⟩ then 2
 else if s ∈ ([⟨#[61, 61]⟩, ⟨#[33, 61]⟩, ⟨#[60]⟩, ⟨#[60, 61]⟩, ⟨#[62]⟩, ⟨#[62, 61]⟩] : List Txt) then 3
 else if s ∈ ([⟨#[43]⟩, ⟨#[45]⟩] : List Txt) then 4 else if s ∈ ([⟨#[42]⟩, ⟨#[47]⟩, ⟨#[37]⟩] : List Txt) then 5 else 0
def opLoop (one : Nat → Rs Ex) (level : Int) : Nat → Ex → Nat → Rs Ex
 | 0, x, k => .ok x k
 | f + 1, x, k => if (tkNext T k).1 ≠ 4 ∨ levelT (tkNext T k).2.2 ≠ level then .ok x k
   else (one (k + 1)).bind fun y k' => opLoop one level f (.mk 3 (tkNext T k).2.1 0 0 (tkNext T k).2.2 [] [x, y]) k'
def exprL (prim : Nat → Rs Ex) : Nat → Nat → Rs Ex
 | 0, k => prim k
 | j + 1, k => (exprL prim j k).bind fun x k' => opLoop T (exprL prim j) (5 - j) T.length x k'
def argsP (prim : Nat → Rs Ex) (k : Nat) : Rs (List Ex) := (mustP T E tLeft k).bind fun _ k1 =>
 if tkIs T k1 tRight then .ok [] (k1 + 1) else (listP T E (exprL T prim 5) 4 tComma k1).bind fun l k2 => (mustP T E tRight k2).bind fun _ k3 => .ok l k3
def numT (t : Txt) : Int := (t.toList.foldl (fun n b => n * 10 + (b.toNat - 48)) 0 : Nat)
def primP : Nat → Nat → Rs Ex
 | 0 => fun k => failP T E 2 k
 | d + 1 => fun k =>
   if (tkNext T k).1 = 2 then .ok (.mk 1 (tkNext T k).2.1 (numT (tkNext T k).2.2) 1 ⟨#[]⟩ [] []) (k + 1)
   else if tkIs T k tTrue then .ok (.mk 1 (tkNext T k).2.1 1 2 ⟨#[]⟩ [] []) (k + 1)
   else if tkIs T k tFalse then .ok (.mk 1 (tkNext T k).2.1 0 2 ⟨#[]⟩ [] []) (k + 1)
   else if (tkNext T k).1 = 1 then
    (if tkIs T (k + 1) tLeft then (argsP T E (primP d) (k + 1)).bind fun l k2 => .ok (.mk 4 (tkNext T k).2.1 0 0 (tkNext T k).2.2 [] l) k2
     else .ok (.mk 2 (tkNext T k).2.1 0 0 (tkNext T k).2.2 [] []) (k + 1))
   else if tkIs T k tMinus || tkIs T k tNot then (primP d (k + 1)).bind fun x k2 => .ok (.mk 3 (tkNext T k).2.1 0 0 (tkNext T k).2.2 [] [x]) k2
   else if tkIs T k tLeft then (exprL T (primP d) 5 (k + 1)).bind fun x k2 => (mustP T E tRight k2).bind fun _ k3 => .ok x k3
   else if tkIs T k tRelease then (mustP T E tLeft (k + 1)).bind fun _ k1 => (exprL T (primP d) 5 k1).bind fun x k2 => (mustP T E tTo k2).bind fun _ k3 => (labelP T E k3).bind fun l k4 =>
    (mustP T E tRight k4).bind fun _ k5 => .ok (.mk 5 (tkNext T k).2.1 0 0 ⟨#[]⟩ l [x]) k5
   else failP T E 1 k
end
end
section
open Go.RowKit
theorem SliceOf.of_owns {α : Type} {E : Enc α} {k : Nat} {w : World} {l : List α} {base : Nat} {e : TypeId} {v : Value} {xs : List Value} (h : w.ownsRow base e k v l.length xs)
 (hE : ∀ i (hi : i < l.length), ∃ vs, E w l[i] vs ∧ vs.length = k ∧ ∀ j x, vs[j]? = some x → xs[i * k + j]? = some x) : SliceOf E k w l v := by
 obtain ⟨hl, h⟩ := h
 rcases h with ⟨rfl, hn⟩ | ⟨g, cap, cur, rfl, _, hh, h1, h2, h3, h4⟩
 · exact ⟨none, 0, by rw [hn], by omega, by unfold maxLen; omega, Or.inl (List.length_eq_zero_iff.1 hn)⟩
 · refine ⟨_, cap, rfl, h1, h2, Or.inr ⟨g, 0, rfl, fun i hi => ?_⟩⟩
   obtain ⟨vs, e1, e2, e3⟩ := hE i hi
   refine ⟨vs, e1, e2, fun j x hx => ?_⟩
   have := e3 j x hx
   rw [← h4, List.getElem?_take] at this
   split at this
   · simpa [World.cell?, hh] using this
   · cases this
theorem Strs.of_owns {w : World} {l : List Txt} {base : Nat} {e : TypeId} {v : Value} (h : w.ownsRow base e 1 v l.length (l.map Value.string)) : Strs w l v :=
 SliceOf.of_owns h fun i hi => ⟨_, rfl, rfl, fun j x hx => by
  match j, hx with
  | 0, hx =>
    simp at hx
    subst hx
    simp [hi]⟩
end
section
open Go.RowKit Go.Maps
theorem Tryz.info_stringL : (Tryz.prog.info? 9).map (fun i => (i.zero, i.size, i.bytes)) = some (some (.string ByteArray.empty), 1, 16) := by kernel_rfl
theorem strs_of_own {w : World} {o : Txt} {rs : List Txt} {base n : Nat} {e : TypeId} {v : Value} {xs : List Value} (h : w.ownsRow base e 1 v n ([.string o] ++ xs)) (hn : n = 1 + rs.length) (hr : Rows txt 1 w rs xs) : Strs w (o :: rs) v := by
 have hn' : n = (o :: rs).length := by rw [hn]; simp; omega
 subst hn'
 exact SliceOf.of_rows h ⟨[.string o], xs, rfl, rfl, rfl, hr⟩
def TellsPol (W : World) (l : Lab) (fn : FuncId) (cap : Array Value) (f : Pol → Bool) : Prop :=
 ∀ (x : Pol), x ∈ l → ∀ (vr : Value) (w : World), Below W.heap.size W w → Strs w x.2 vr → Calls Tryz.prog fn (#[.agg #[.string x.1, vr]] ++ cap) w fun e w' => e = .returned (.bool (f x)) ∧ Below w.heap.size w w'
theorem indexPol_calls (l : Lab) (v : Value) (fn : FuncId) (cap : Array Value) (f : Pol → Bool) (w : World) (h : Lbl w l v) (eg : ∀ args w, (callFunc fn args).run Tryz.prog w = .ok (.enter fn args) w) (hq : TellsPol w l fn cap f) :
 Calls Tryz.prog 277 #[v, .func (.func fn) #[] cap] w fun e w' => e = .returned (.int .i64 (idxBy l f)) ∧ Below w.heap.size w w' := by
 obtain ⟨b, o, c, p, rfl, hlc, hc, hp, hcells⟩ := h.cells
 go_enter Tryz.func277, Tryz.ntmps277
 go_wp2
 go_loopw [5, 8] (fun _ i wr => ∃ k : Nat, k ≤ l.length ∧ i = .int .i64 k ∧ Below w.heap.size w wr ∧ ∀ j (hj : j < l.length), j < k → f l[j] = false) (fun _ i _ => l.length - (intOf i).toNat)
 case atStart => exact ⟨0, Nat.zero_le _, rfl, Below.refl _ _, fun j _ hj => absurd hj (Nat.not_lt_zero _)⟩
 case round =>
  obtain ⟨k, hk, rfl, hb, hne⟩ := hrel
  by_cases hlt : k < l.length
  · obtain ⟨u, hca, hcb, hu⟩ := hcells k hlt
    have hcell1 : wr.cell? ⟨b, o + k * 2, none⟩ = some (.string l[k].1) := (hb.cell (cell_lt hca)).trans hca
    have hcell2 : wr.cell? ⟨b, o + k * 2 + 1, none⟩ = some u := (hb.cell (cell_lt hcb)).trans hcb
    obtain rfl := hp (by omega)
    have HN := Hd hne
    clear hp hcells hca hcb hne
    have HQ := hq l[k] (List.getElem_mem hlt) u wr hb (hu.stays (keeps_of_below hb))
    clear hq hu
    cases hx : f l[k] with
    | true =>
      rw [hx] at HQ
      have HX := Hd hx
      clear hx
      go_wp2_with (fail)
      refine HQ.mono ?_
      rintro e w1 ⟨rfl, hb1⟩
      go_wp2
      go_ret
      exact ⟨ret_int (idxBy_hit hlt HX.out HN.out).symm, hb.trans (hb1.mono hb.size)⟩
    | false =>
      rw [hx] at HQ
      have HX := Hd hx
      clear hx
      go_wp2_with (fail)
      refine HQ.mono ?_
      rintro e w1 ⟨rfl, hb1⟩
      go_wp2
      go_roundw
      case rel =>
       refine ⟨k + 1, by omega, by go_num, hb.trans (hb1.mono hb.size), fun j hj hj' => ?_⟩
       by_cases e : j = k
       · subst e; exact HX.out
       · exact HN.out j hj (by omega)
      case measure => simp [intOf]; omega
  · go_wp2
    go_ret
    exact ⟨ret_int (idxBy_miss (fun j hj => hne j hj (by omega))).symm, hb⟩
theorem containsPol_calls (l : Lab) (v : Value) (fn : FuncId) (cap : Array Value) (f : Pol → Bool) (w : World) (h : Lbl w l v)
 (eg : ∀ args w, (callFunc fn args).run Tryz.prog w = .ok (.enter fn args) w) (hq : TellsPol w l fn cap f) :
 Calls Tryz.prog 220 #[v, .func (.func fn) #[] cap] w fun e w' => e = .returned (.bool (anyBy l f)) ∧ Below w.heap.size w w' := by
 rw [← idxBy_any]
 go_enter Tryz.func220, Tryz.ntmps220
 go_wp2_with (go_at_call 277; refine (indexPol_calls l _ fn cap f _ h eg hq).mono ?_; rintro e w' ⟨rfl, hb⟩)
 go_ret
 exact ⟨rfl, hb⟩
end
section
open Go.RowKit
def bytesT (l : List UInt8) : Txt := ⟨l.toArray⟩
def joinT (l : List Txt) (sep : Txt) : Txt := bytesT (Lib.join (l.map (·.data.toList)) sep.data.toList)
theorem join_calls (l : List Txt) (sep : Txt) (v : Value) (w : World) (h : Strs w l v) (hl : (Lib.join (l.map (·.data.toList)) sep.data.toList).length ≤ 140737488355328) (hn : l.length ≤ 140737488355328) :
 Calls Tryz.prog 58 #[v, .string sep] w fun e w' => e = .returned (.string (joinT l sep)) ∧ Below w.heap.size w w' := by
 obtain ⟨b, o, c, p, rfl, hlc, hc, hp, hcells⟩ := h.cells
 by_cases h0 : l.length = 0
 · have e : l = [] := List.length_eq_zero_iff.1 h0
   subst e
   refine (Tryz.strings_Join_none p c sep w).mono ?_
   rintro e w' ⟨rfl, rfl⟩
   exact ⟨rfl, Below.refl _ _⟩
 · obtain rfl := hp (by omega)
   exact Tryz.strings_Join b o c l sep w (fun j x hx => by
    obtain ⟨hj, rfl⟩ := List.getElem?_eq_some_iff.1 hx
    exact hcells j hj) (cell_lt (hcells 0 (by omega))) hn hlc hl
end
section
open Go.RowKit
theorem join_len (l : List Txt) (sep : Txt) (m : Nat) (h : ∀ s ∈ l, s.size ≤ m) : (Lib.join (l.map (·.data.toList)) sep.data.toList).length ≤ l.length * (m + sep.size) := by
 cases l with
 | nil => simp [Lib.join_nil]
 | cons x l =>
   rw [List.map_cons, Lib.join_cons]
   have hx : x.data.toList.length ≤ m := h x (by simp)
   have : ∀ (l : List Txt), (∀ s ∈ l, s.size ≤ m) → (Lib.joinTail sep.data.toList (l.map (·.data.toList))).length ≤ l.length * (m + sep.size) := by
    intro l
    induction l with
    | nil => intro _; simp [Lib.joinTail]
    | cons y l ih =>
      intro h
      have h1 : y.data.toList.length ≤ m := h y (by simp)
      have h2 := ih fun s hs => h s (by simp [hs])
      have h3 : sep.data.toList.length = sep.size := Array.length_toList
      simp only [Lib.joinTail, List.map_cons, List.flatten_cons, List.length_append, List.length_cons, Nat.add_mul] at h2 ⊢
      omega
   have h2 := this l fun s hs => h s (by simp [hs])
   simp only [List.length_append, List.length_cons, Nat.add_mul]
   omega
theorem joinT_size (l : List Txt) (sep : Txt) : (joinT l sep).size = (Lib.join (l.map (·.data.toList)) sep.data.toList).length := by
 exact List.size_toArray
end
section
open Go.RowKit Go.Maps
def longP (p : Pol) : Bool := decide (6 < p.2.length) || (p.1 :: p.2).any fun s => decide (12 < s.size)
def longL (x : Lab) : Bool := decide (200 < x.length) || x.any longP
def colonT : Txt := ⟨#[58]⟩
def commaT : Txt := ⟨#[44]⟩
def semiT : Txt := ⟨#[59]⟩
def openT : Txt := ⟨#[123]⟩
def shutT : Txt := ⟨#[125]⟩
def polT (p : Pol) : Txt := p.1 ++ colonT ++ joinT p.2 commaT
def printT (x : Lab) : Txt := openT ++ joinT (x.map polT) semiT ++ shutT
def printE (x : Lab) : Int := if longL x then 2 else 0
def printS (x : Lab) : Txt := if longL x then ByteArray.empty else printT x
theorem long_many {x : Lab} (h : 200 < x.length) : longL x = true := by simp [longL, h]
theorem long_at {x : Lab} {k : Nat} (hk : k < x.length) (h : longP x[k] = true) : longL x = true := by
 unfold longL
 rw [Bool.or_eq_true, List.any_eq_true]
 exact .inr ⟨_, List.getElem_mem hk, h⟩
theorem long_none {x : Lab} (h0 : ¬ 200 < x.length) (h : ∀ j (hj : j < x.length), longP x[j] = false) : longL x = false := by
 unfold longL
 rw [Bool.or_eq_false_iff, List.any_eq_false]
 refine ⟨by simp; omega, fun p hp => ?_⟩
 obtain ⟨j, hj, rfl⟩ := List.getElem_of_mem hp
 simp [h j hj]
theorem longP_many {p : Pol} (h : 6 < p.2.length) : longP p = true := by simp [longP, h]
theorem longP_at {p : Pol} {ys : List Txt} (e : p.1 :: p.2 = ys) {k : Nat} (hk : k < ys.length) (h : 12 < ys[k].size) : longP p = true := by
 subst e
 unfold longP
 rw [Bool.or_eq_true, List.any_eq_true]
 exact .inr ⟨_, List.getElem_mem hk, by simpa using h⟩
theorem longP_none {p : Pol} {ys : List Txt} (e : p.1 :: p.2 = ys) (h0 : ¬ 6 < p.2.length) (h : ∀ j (hj : j < ys.length), ¬ 12 < ys[j].size) : longP p = false := by
 subst e
 unfold longP
 rw [Bool.or_eq_false_iff, List.any_eq_false]
 refine ⟨by simp; omega, fun s hs => ?_⟩
 obtain ⟨j, hj, rfl⟩ := List.getElem_of_mem hs
 have := h j hj
 simp; omega
theorem longP_false {p : Pol} (h : longP p = false) : p.2.length ≤ 6 ∧ p.1.size ≤ 12 ∧ ∀ s ∈ p.2, s.size ≤ 12 := by
 unfold longP at h
 rw [Bool.or_eq_false_iff, List.any_eq_false] at h
 refine ⟨by have := h.1; simp at this; omega, by have := h.2 p.1 (by simp); simp at this; omega, fun s hs => ?_⟩
 have := h.2 s (by simp [hs])
 simp at this; omega
theorem polT_size {p : Pol} (h : longP p = false) : (polT p).size ≤ 91 := by
 obtain ⟨h1, h2, h3⟩ := longP_false h
 have := join_len p.2 commaT 12 h3
 have e : commaT.size = 1 := rfl
 have e2 : colonT.size = 1 := rfl
 unfold polT
 rw [ByteArray.size_append, ByteArray.size_append, joinT_size, e2]
 have : p.2.length * (12 + commaT.size) ≤ 6 * 13 := Nat.mul_le_mul h1 (by rw [e]; decide)
 omega
theorem print_calls (x : Lab) (u : Value) (w : World) (hu : Lbl w x u) :
 Calls Tryz.prog 15 #[u] w fun e w' => e = .returned (.tuple #[.string (printS x), .int .i64 (printE x)]) ∧ Below w.heap.size w w' := by
 obtain ⟨b, o, c, p, rfl, hlc1, hcm1, hp, hcells⟩ := hu.cells
 clear hu
 obtain ⟨t0, hi, hz0, hz1, hz2⟩ := info_parts Tryz.info_stringL
 by_cases h0 : x.length ≤ 200
 · have h0' : (x.length : Int) ≤ 200 := by omega
   go_enter Tryz.func15, Tryz.ntmps15
   go_wp2
   go_loopw [4, 6, 8, 14] (fun y _ _ i wr => ∃ k : Nat, k ≤ x.length ∧ i = .int .i64 k ∧ Below w.heap.size w wr ∧ wr.ownsRow w.heap.size 9 1 y k ((x.take k).map fun p => .string (polT p)) ∧ Hid (∀ j (hj : j < x.length), j < k → longP x[j] = false)) (fun _ _ _ i _ => x.length - (intOf i).toNat)
   case atStart => exact ⟨0, Nat.zero_le _, rfl, Below.refl _ _, World.ownsRow_nil _ _ _ _, fun j _ hj => absurd hj (Nat.not_lt_zero _)⟩
   case round =>
    obtain ⟨k, hk, rfl, hb, hown, HN⟩ := hrel
    by_cases hlt : k < x.length
    · obtain ⟨ur, hca, hcb, hur⟩ := hcells k hlt
      have hcell1 : wr.cell? ⟨b, o + k * 2, none⟩ = some (.string x[k].1) := (hb.cell (cell_lt hca)).trans hca
      have hcell2 : wr.cell? ⟨b, o + k * 2 + 1, none⟩ = some ur := (hb.cell (cell_lt hcb)).trans hcb
      obtain rfl := hp (by omega)
      clear hp hcells hca hcb
      obtain ⟨pr, cr, xs, rfl, hl1, hl2, hrow, hpn, hnews⟩ := SliceOf.rows (by decide) hur
      by_cases h6 : 6 < x[k].2.length
      · have h6' : 6 < (x[k].2.length : Int) := by omega
        have HX : Hid (longL x = true) := long_at hlt (longP_many h6)
        go_wp2
        go_ret2
        exact ⟨by unfold printS printE; rw [HX.out]; rfl, hb.alloc hb.size _⟩
      · have h6' : (x[k].2.length : Int) ≤ 6 := by omega
        have hsize := hb.size
        have hlen6 : x[k].2.length ≤ 6 := by omega
        obtain ⟨W1, eW⟩ : ∃ W1, wr.alloc (.cells #[.string x[k].1, .slice pr x[k].2.length cr] 92) = W1 := ⟨_, rfl⟩
        obtain ⟨z1, hW1, m1⟩ := boxes1 eW
        have hm0 := m1 0
        have hm1 := m1 1
        simp only [List.getElem?_toArray, List.getElem?_cons_zero, List.getElem?_cons_succ] at hm0 hm1
        have hbA : Below w.heap.size w W1 := hb.trans (hW1.mono hb.size)
        have hk3 := (keeps_of_below hbA).trans (keeps_of_below ((Below.refl W1.heap.size W1).alloc (Nat.le_refl _) (.cells #[.string x[k].1] 9)))
        have hown0 : (W1.alloc (.cells #[.string x[k].1] 9)).ownsRow w.heap.size 9 1 (.slice (some ⟨wr.heap.size + 1, 0, none⟩) 1 1) 1 [.string x[k].1] := by
         have := World.ownsRow_lit (base := w.heap.size) (e := 9) (size := 1) W1 #[.string x[k].1] 1 hbA.size (by unfold maxLen; decide) rfl
         rw [z1] at this
         simpa using this
        have HROW := Hd hrow
        have HNEWS := Hd hnews
        have HBA := Hd hbA
        have HW1 := Hd hW1
        have HOWN := Hd (own_below hown hW1)
        have HM0 := Hd hm0
        have HM1 := Hd hm1
        have HUR := Hd (hur.stays (keeps_of_below hbA))
        clear hrow hnews hur hbA hW1 hown m1
        go_wp2_with (at_builtin; refine wpList_append_src _ rfl _ _ 46 rfl w.heap.size 9 t0 (.string ByteArray.empty) 1 16 Tryz.underlying46 hi hz0 hz1 hz2 rfl (by decide) _ _ _ rfl hown0 pr x[k].2.length cr xs rfl HROW.out.length hpn ?c1 (Rows.plain txt_plain HROW.out) ?c2 ?c3 ?c4 ?_)
        case c1 => exact fun ad e j u hu => cell_keep hk3 (HNEWS.out ad e j u hu)
        case c2 => unfold maxLen; omega
        case c3 => omega
        case c4 => simp; omega
        · intro v' w5 hown' hgrow
          have hS : Strs w5 (x[k].1 :: x[k].2) v' := strs_of_own hown' rfl (Rows.free (One.free _) HROW.out)
          have hb5 : Below W1.heap.size W1 w5 := ((Below.refl _ _).alloc (Nat.le_refl _) _).grown hgrow (by simp) (fun q hq => by simp [Value.ownBlock] at hq; omega)
          generalize hys : x[k].1 :: x[k].2 = ys at hS
          have HYS := Hd hys
          obtain ⟨b7, o7, c7, p7, rfl, hl7, hc7, hp7, hcells7⟩ := hS.cells
          obtain rfl := hp7 (by rw [← hys]; simp)
          have HB5 := Hd hb5
          clear hys hown' hgrow hS hk3 hcell1 hcell2 hb hp7 hb5
          go_wp2
          go_loop [8, 29] (fun _ i => ∃ m : Nat, m ≤ ys.length ∧ i = .int .i64 m ∧ Hid (∀ j (hj : j < ys.length), j < m → ¬ 12 < ys[j].size)) (fun _ i => ys.length - (intOf i).toNat)
          case atStart => exact ⟨0, Nat.zero_le _, rfl, fun j _ hj => absurd hj (Nat.not_lt_zero _)⟩
          case round =>
           obtain ⟨m, hm, rfl, HM⟩ := hrel
           by_cases hltm : m < ys.length
           · have hcell := hcells7 m hltm
             clear hcells7
             by_cases hs : 12 < ys[m].size
             · have HX : Hid (longL x = true) := long_at hlt (longP_at HYS.out hltm hs)
               have hs' : 12 < (ys[m].size : Int) := by omega
               go_wp2
               go_ret2
               exact ⟨by unfold printS printE; rw [HX.out]; rfl, HBA.out.trans (HB5.out.mono HBA.out.size)⟩
             · have hs' : (ys[m].size : Int) ≤ 12 := by omega
               have HS := Hd hs
               go_wp2
               go_round
               case rel =>
                refine ⟨m + 1, by omega, by go_num, fun j hj hj' => ?_⟩
                by_cases e : j = m
                · subst e; exact HS.out
                · exact HM.out j hj (by omega)
               case measure => simp [intOf]; omega
           · have HX : Hid (longP x[k] = false) := longP_none HYS.out h6 fun j hj => HM.out j hj (by omega)
             clear hcells7
             go_wp2
             have hzW := z1
             obtain ⟨ext, hx1, hx2⟩ := exists_ext w5
             have k0 : ∀ y, (ext y).cell? ⟨wr.heap.size, 0, none⟩ = some (.string x[k].1) := fun y => ((HB5.out.trans ((hx1 y).mono HB5.out.size)).cell (p := ⟨wr.heap.size, 0, none⟩) (by simp only; omega)).trans HM0.out
             have k1 : ∀ y, (ext y).cell? ⟨wr.heap.size, 1, none⟩ = some (.slice pr x[k].2.length cr) := fun y => ((HB5.out.trans ((hx1 y).mono HB5.out.size)).cell (p := ⟨wr.heap.size, 1, none⟩) (by simp only; omega)).trans HM1.out
             have HJ : Hid (∀ y, Calls Tryz.prog 58 #[.slice pr x[k].2.length cr, .string commaT] (ext y) fun e w'' => e = .returned (.string (joinT x[k].2 commaT)) ∧ ∃ z, w'' = ext z) := fun y => by
              have hl := join_len x[k].2 commaT 12 (longP_false HX.out).2.2
              have e1 : commaT.size = 1 := rfl
              have hm : x[k].2.length * (12 + commaT.size) ≤ 6 * 13 := Nat.mul_le_mul hlen6 (by rw [e1]; decide)
              refine (join_calls x[k].2 commaT _ (ext y) (HUR.out.stays (keeps_of_below (HB5.out.trans ((hx1 y).mono HB5.out.size)))) (by omega) (by omega)).mono fun e w'' ⟨h1, h2⟩ => ⟨h1, w'', hx2 _ ((hx1 y).trans (h2.mono (hx1 y).size))⟩
             have hOx : ∀ y, (ext y).ownsRow w.heap.size 9 1 _ k ((x.take k).map fun p => .string (polT p)) := fun y => own_below HOWN.out (HB5.out.trans ((hx1 y).mono HB5.out.size))
             have HOX := Hd hOx
             have hbx : ∀ y, Below w.heap.size w (ext y) := fun y => HBA.out.trans ((HB5.out.trans ((hx1 y).mono HB5.out.size)).mono HBA.out.size)
             have HBX := Hd hbx
             have hd := hx2 _ (Below.refl w5.heap.size w5).drew
             have HD := Hd hd
             have hs1 : x[k].1.size ≤ 12 := (longP_false HX.out).2.1
             have hs2 : (joinT x[k].2 commaT).size ≤ 91 := by
              have h := polT_size HX.out
              unfold polT at h
              rw [ByteArray.size_append] at h
              omega
             clear hx1 hx2 hd hOx hbx
             refine wp_region_moved_tail 8 (fun w' => ∃ y, w' = ext y) (by kernel_rfl) rfl rfl (fun _ _ _ _ h => h) (by kernel_rfl) ⟨_, HD.out⟩ ?_
             simp only [List.take_succ_cons, List.take_zero, List.drop_succ_cons, List.drop_zero, Act.put, Act.eval, List.setIfInBounds_toArray, List.set_cons_succ, List.set_cons_zero, Array.getD_eq_getD_getElem?, List.getElem?_toArray, List.getElem?_cons_succ, List.getElem?_cons_zero, Option.getD_some]
             repeat go_big_quiet_step ((go_at_call 58; exact HJ.out _))
             refine wpQuiet_nil ?_
             rintro w' ⟨y, rfl⟩
             have hown6 := (HOX.out y)
             have hsz6 := (HBX.out y).size
             clear k0 k1
             go_wp2_with (at_builtin; refine wpList_append_own _ rfl _ _ 46 rfl w.heap.size 9 t0 (.string ByteArray.empty) 1 16 Tryz.underlying46 hi hz0 hz1 hz2 rfl (by decide) _ _ _ rfl (hown6.alloc _) ⟨(ext y).heap.size, 0, none⟩ 1 1 [.string (x[k].1 ++ ⟨#[58]⟩ ++ joinT x[k].2 commaT)] rfl rfl ?c1 ?c2 ?c3 ?c4 ?c5 ?_)
             case c1 =>
              intro j u hj
              match j, hj with
              | 0, hj => simp at hj; subst hj; simp [Addr.add]
             case c2 => intro u hu; simp at hu; subst hu; rfl
             case c3 => unfold maxLen; omega
             case c4 => omega
             case c5 => simp; omega
             · intro v' w6 hown' hgrow6 _
               go_wp2
               go_roundw
               case rel =>
                refine ⟨k + 1, by omega, by go_num, ((HBX.out y).alloc (HBX.out y).size _).grown hgrow6 (by have := (HBX.out y).size; simp; omega) (fun q hq => (hown6.lt q hq).1), ?_, fun j hj hj' => ?_⟩
                · rw [List.take_succ_eq_append_getElem hlt, List.map_append, List.map_take]
                  exact hown'
                · by_cases e : j = k
                  · subst e; exact HX.out
                  · exact HN.out j hj (by omega)
               case measure => simp [intOf]; omega
    · obtain rfl : k = x.length := by omega
      have HX : Hid (longL x = false) := long_none (by omega) fun j hj => HN.out j hj (by omega)
      rw [List.take_length] at hown
      have hS : Strs wr (x.map polT) _ := Strs.of_owns (l := x.map polT) (by rw [List.length_map, List.map_map]; exact hown)
      have hn : ∀ s ∈ x.map polT, s.size ≤ 91 := fun s hs => by
       obtain ⟨p, hp, rfl⟩ := List.mem_map.1 hs
       obtain ⟨j, hj, rfl⟩ := List.getElem_of_mem hp
       exact polT_size (HN.out j hj hj)
      have hl := join_len (x.map polT) semiT 91 hn
      have e1 : semiT.size = 1 := rfl
      have hm : (x.map polT).length * (91 + semiT.size) ≤ 200 * 92 := Nat.mul_le_mul (by rw [List.length_map]; exact h0) (by rw [e1]; decide)
      have HJ : Hid (Calls Tryz.prog 58 #[_, .string semiT] wr fun e w' => e = .returned (.string (joinT (x.map polT) semiT)) ∧ Below wr.heap.size wr w') := join_calls (x.map polT) semiT _ wr hS (by omega) (by rw [List.length_map]; omega)
      have hs2 : (joinT (x.map polT) semiT).size ≤ 18400 := by rw [joinT_size]; omega
      clear hS hl hm hn e1 hp hcells hown
      go_wp2_with (fail)
      refine HJ.out.mono ?_
      rintro e w1 ⟨rfl, hb1⟩
      go_wp2
      go_ret2
      exact ⟨by unfold printS printE; rw [HX.out]; rfl, hb.trans (hb1.mono hb.size)⟩
 · have h0' : 200 < (x.length : Int) := by omega
   have HX : Hid (longL x = true) := long_many (by omega)
   go_enter Tryz.func15, Tryz.ntmps15
   go_wp2
   go_ret2
   exact ⟨by unfold printS printE; rw [HX.out]; rfl, Below.refl _ _⟩
end
section
open Go.RowKit
def fitsB (l : Lab) : Bool := (printE l == 0) && !anyBy l fun p => !isName p.1 || !(!anyBy p.2 fun s => !isName s)
def formB (x : Ex) (deep : Int) : Bool :=
 if x.kind = 1 then decide (deep ≤ 12) && ((x.kids.length : Int) == 0) && (x.name == ⟨#[]⟩) && ((x.lab.length : Int) == 0) && ((x.ty == 1 && decide (0 ≤ x.num) && decide (x.num ≤ 999999999)) || (x.ty == 2 && (x.num == 0 || x.num == 1)))
 else if x.kind = 2 then decide (deep ≤ 12) && isName x.name && ((x.kids.length : Int) == 0) && (x.num == 0) && (x.ty == 0) && ((x.lab.length : Int) == 0)
 else if x.kind = 3 then decide (deep ≤ 12) && ((((x.kids.length : Int) == 1) && (x.name == tMinus || x.name == tNot)) || (((x.kids.length : Int) == 2) && decide (0 < levelT x.name))) && (x.num == 0) && (x.ty == 0) && ((x.lab.length : Int) == 0)
 else if x.kind = 4 then decide (deep ≤ 12) && isName x.name && decide ((x.kids.length : Int) ≤ 4) && (x.num == 0) && (x.ty == 0) && ((x.lab.length : Int) == 0)
 else if x.kind = 5 then decide (deep ≤ 12) && ((x.kids.length : Int) == 1) && (x.name == ⟨#[]⟩) && (x.num == 0) && (x.ty == 0) && fitsB x.lab
 else false
def quoteT (b : Bool) (s : Txt) : Txt := if b then tLeft ++ s ++ tRight else s
def blank1 : Txt := ⟨#[32]⟩
def commaSp : Txt := ⟨#[44, 32]⟩
def toT : Txt := ⟨#[32, 116, 111, 32]⟩
def releaseT : Txt := ⟨#[114, 101, 108, 101, 97, 115, 101, 40]⟩
mutual
def textP : Ex → Int → Txt
 | .mk kind at_ n ty name l a, tight =>
   if kind = 1 then (if ty = 2 then (if n = 1 then tTrue else tFalse) else ⟨(Lib.itoa n).toArray⟩)
   else if kind = 2 then name
   else if kind = 4 then name ++ (tLeft ++ joinT (textsP a 0 0) commaSp ++ tRight)
   else if kind = 5 then releaseT ++ (textsP a 0 0).getD 0 ⟨#[]⟩ ++ toT ++ printS l ++ tRight
   else if a.length = 1 then name ++ (textsP a 6 0).getD 0 ⟨#[]⟩
   else quoteT (decide (levelT name < tight)) ((textsP a (levelT name) 1).getD 0 ⟨#[]⟩ ++ blank1 ++ name ++ blank1 ++ (textsP a (levelT name) 1).getD 1 ⟨#[]⟩)
def textsP : List Ex → Int → Int → List Txt
 | [], _, _ => []
 | x :: r, t, d => textP x t :: textsP r (t + d) d
end
end
section
open Go.RowKit
theorem mf_run (fn : Fn) (first cap : Array Value) (w : World) : (Instr.makeFunc fn first cap).run Tryz.prog w = .ok (.func fn first cap) w := rfl
def mask (B : Nat) (w : World) : World := { w with heap := w.heap.setIfInBounds B (.cells #[] 0 (0, 0)) }
theorem mask_size (B : Nat) (w : World) : (mask B w).heap.size = w.heap.size := by simp [mask]
theorem mask_cell (B : Nat) (w : World) (b o : Nat) : (mask B w).cell? ⟨b, o, none⟩ = if b = B then none else w.cell? ⟨b, o, none⟩ := by
 unfold mask World.cell?
 simp only [Array.getElem?_setIfInBounds]
 by_cases h : b = B
 · subst h
   rw [if_pos rfl, if_pos rfl]
   by_cases h2 : b < w.heap.size
   · rw [if_pos h2]; simp
   · rw [if_neg h2]
 · rw [if_neg h, if_neg (fun e => h e.symm)]
theorem mask_keeps (B : Nat) (w : World) : Keeps (mask B w) w := ⟨by rw [mask_size]; exact Nat.le_refl _, fun b o v h => by
 rw [mask_cell] at h
 by_cases e : b = B
 · rw [if_pos e] at h; cases h
 · rw [if_neg e] at h; exact h⟩
def hide (p : Nat → Bool) (w : World) : World := { w with heap := w.heap.mapIdx fun i o => if p i then .cells #[] 0 (0, 0) else o }
theorem hide_size (p : Nat → Bool) (w : World) : (hide p w).heap.size = w.heap.size := by simp [hide]
theorem hide_cell (p : Nat → Bool) (w : World) (b o : Nat) : (hide p w).cell? ⟨b, o, none⟩ = if p b then none else w.cell? ⟨b, o, none⟩ := by
 unfold hide World.cell?
 simp only [Array.getElem?_mapIdx]
 cases hp : p b with
 | true =>
   cases hb : w.heap[b]? <;> simp
 | false => cases hb : w.heap[b]? <;> simp
theorem hide_keeps (p : Nat → Bool) (w : World) : Keeps (hide p w) w := ⟨by rw [hide_size]; exact Nat.le_refl _, fun b o v h => by
 rw [hide_cell] at h
 split at h
 · cases h
 · exact h⟩
theorem keeps_hide {p q : Nat → Bool} {w w' : World} (hs : w.heap.size ≤ w'.heap.size) (h : ∀ b, b < w.heap.size → p b = false → q b = false ∧ w'.heap[b]? = w.heap[b]?) : Keeps (hide p w) (hide q w') :=
 ⟨by rw [hide_size, hide_size]; exact hs, fun b o v hv => by
   rw [hide_cell] at hv ⊢
   cases hp : p b with
   | true => simp [hp] at hv
   | false =>
     simp only [hp, Bool.false_eq_true, if_false] at hv
     obtain ⟨h1, h2⟩ := h b (cell_lt hv) hp
     simp only [h1, Bool.false_eq_true, if_false]
     rw [World.cell?_of_block (a := ⟨b, o, none⟩) h2]
     exact hv⟩
abbrev since (n : Nat) (w : World) : World := hide (fun b => decide (b < n)) w
abbrev Aside1 (B : Nat) (w w' : World) : Prop := w.grownBy w' (some B)
section
variable {B : Nat} {w w' w'' : World}
theorem Aside1.refl (B : Nat) (w : World) : Aside1 B w w := World.grownBy.refl w _
theorem Aside1.trans (h : Aside1 B w w') (k : Aside1 B w' w'') : Aside1 B w w'' :=
 ⟨k.os.trans h.os, k.tape.trans h.tape, k.output.trans h.output, Nat.le_trans h.size k.size, fun i hi hne => (k.block i (Nat.lt_of_lt_of_le hi h.size) hne).trans (h.block i hi hne)⟩
theorem aside_below (h : Below w.heap.size w w') : Aside1 B w w' := ⟨h.os, h.tape, h.output, h.size, fun i hi _ => h.block i hi⟩
theorem aside_set (o : Nat) (v : Value) : Aside1 B w (w.setCell ⟨B, o, none⟩ v) :=
 ⟨rfl, rfl, rfl, by simp [World.setCell], fun i hi hne => Below.heap_setCell _ _ _ _ (fun e => hne (by simp [e]))⟩
theorem Aside1.keeps (h : Aside1 B w w') : Keeps (mask B w) (mask B w') := ⟨by rw [mask_size, mask_size]; exact h.size, fun b o v hv => by
 rw [mask_cell] at hv ⊢
 by_cases e : b = B
 · rw [if_pos e] at hv; cases hv
 · rw [if_neg e] at hv ⊢
   have hb := cell_lt hv
   rw [World.cell?_of_block (a := ⟨b, o, none⟩) (h.block b hb (fun e2 => e (by simpa using e2)))]
   exact hv⟩
theorem Aside1.cell (h : Aside1 B w w') {b o : Nat} {v : Value} (hb : b ≠ B) (hv : w.cell? ⟨b, o, none⟩ = some v) : w'.cell? ⟨b, o, none⟩ = some v := by
 rw [World.cell?_of_block (a := ⟨b, o, none⟩) (h.block b (cell_lt hv) (fun e2 => hb (by simpa using e2)))]
 exact hv
end
theorem since_aside {B n : Nat} {w w' : World} (h : Aside1 B w w') (hB : B < n) : Keeps (since n w) (since n w') :=
 keeps_hide h.size fun b hb hp => ⟨hp, h.block b hb (fun e => by simp at e hp; omega)⟩
theorem since_mono {n m : Nat} (w : World) (h : n ≤ m) : Keeps (since m w) (since n w) :=
 keeps_hide (Nat.le_refl _) fun b hb hp => ⟨by simp at hp ⊢; omega, rfl⟩
abbrev Tab (w : World) : Prop := Lib.TabIs Tryz.prog w "strings.asciiSpace" .u8 Lib.asciiSpaceTab
theorem tab_same {w w' : World} (h : Tab w) (e : 1 < w.heap.size → w'.heap[1]? = w.heap[1]?) : Tab w' := by
 have hgn : Tryz.prog.globalNamed "strings.asciiSpace" = some 1 := by kernel_rfl
 unfold Tab Lib.TabIs World.var? at h ⊢
 rw [hgn] at h ⊢
 simp only [Option.bind_some] at h ⊢
 have hlt : 1 < w.heap.size := by
  rcases Nat.lt_or_ge 1 w.heap.size with h' | h'
  · exact h'
  · rw [Array.getElem?_eq_none h'] at h; cases h
 rw [e hlt]
 exact h
theorem Tab.below {w w' : World} (h : Tab w) (hb : Below w.heap.size w w') : Tab w' := tab_same h fun hl => hb.block _ hl
theorem tab_ne {w : World} {B : Nat} (h : Tab (mask B w)) : 1 ≠ B := by
 intro e
 have hgn : Tryz.prog.globalNamed "strings.asciiSpace" = some 1 := by kernel_rfl
 unfold Tab Lib.TabIs World.var? at h
 rw [hgn] at h
 simp only [Option.bind_some, mask, e, Array.getElem?_setIfInBounds_self] at h
 by_cases hb : B < w.heap.size
 · rw [if_pos hb] at h
   have h2 := congrArg (fun o => o.map Array.size) h
   revert h2
   decide +kernel
 · rw [if_neg hb] at h
   cases h
theorem mask_at {w : World} {B b : Nat} (h : b ≠ B) : (mask B w).heap[b]? = w.heap[b]? := by
 unfold mask
 simp only [Array.getElem?_setIfInBounds]
 rw [if_neg (fun e => h e.symm)]
theorem Tab.bare {w : World} {B : Nat} (h : Tab (mask B w)) : Tab w := tab_same h fun _ => (mask_at (tab_ne h)).symm
theorem Tab.aside {w w' : World} {B : Nat} (h : Tab (mask B w)) (ha : Aside1 B w w') : Tab (mask B w') := tab_same h fun hl => by
 have hn := tab_ne h
 rw [mask_at hn, mask_at hn, ha.block _ (by rw [mask_size] at hl; exact hl) (fun e => hn (by simpa using e))]
structure Rdr (w : World) (B : Nat) (T : List Tok) (E : Int) (tv : Value) (k : Nat) (dp ns : Nat) : Prop where
 blk : w.heap[B]? = some (.cells #[tv, .int .i64 k, .int .i64 E, .int .i64 dp, .int .i64 ns] 194 (0, 0))
 toks : Toks (mask B w) T tv
 tab : Tab (mask B w)
section
variable {w w' : World} {B : Nat} {T : List Tok} {E : Int} {tv : Value} {k dp ns : Nat}
theorem Rdr.lt (h : Rdr w B T E tv k dp ns) : B < w.heap.size := (Array.getElem?_eq_some_iff.1 h.blk).1
theorem Rdr.c0 (h : Rdr w B T E tv k dp ns) : w.cell? ⟨B, 0, none⟩ = some tv := by simp [World.cell?, h.blk]
theorem Rdr.c1 (h : Rdr w B T E tv k dp ns) : w.cell? ⟨B, 1, none⟩ = some (.int .i64 k) := by simp [World.cell?, h.blk]
theorem Rdr.c2 (h : Rdr w B T E tv k dp ns) : w.cell? ⟨B, 2, none⟩ = some (.int .i64 E) := by simp [World.cell?, h.blk]
theorem Rdr.c4 (h : Rdr w B T E tv k dp ns) : w.cell? ⟨B, 4, none⟩ = some (.int .i64 ns) := by simp [World.cell?, h.blk]
theorem Rdr.fz (h : Rdr w B T E tv k dp ns) (i : Nat) : w.frozen? ⟨B, i, none⟩ = false := by simp [World.frozen?, h.blk]
theorem Rdr.below (h : Rdr w B T E tv k dp ns) (hb : Below w.heap.size w w') : Rdr w' B T E tv k dp ns :=
 ⟨by rw [hb.block B h.lt]; exact h.blk, h.toks.stays (aside_below hb).keeps, h.tab.aside (aside_below hb)⟩
theorem Rdr.setK (h : Rdr w B T E tv k dp ns) (k' : Nat) : Rdr (w.setCell ⟨B, 1, none⟩ (.int .i64 k')) B T E tv k' dp ns :=
 ⟨by simp [World.setCell, Array.getElem?_modify, h.blk], h.toks.stays (aside_set _ _).keeps, h.tab.aside (aside_set _ _)⟩
theorem Rdr.setN (h : Rdr w B T E tv k dp ns) (k' : Nat) : Rdr (w.setCell ⟨B, 4, none⟩ (.int .i64 k')) B T E tv k dp k' :=
 ⟨by simp [World.setCell, Array.getElem?_modify, h.blk], h.toks.stays (aside_set _ _).keeps, h.tab.aside (aside_set _ _)⟩
theorem Rdr.open' (h : Rdr w B T E tv k dp ns) : ∃ bt ot ct pt, tv = .slice pt T.length ct ∧ T.length ≤ ct ∧ ct ≤ 9223372036854775807 ∧ (0 < T.length → pt = some ⟨bt, ot, none⟩) ∧
 ∀ (i : Nat) (h : i < T.length), w.cell? ⟨bt, ot + i * 3, none⟩ = some (.int .i64 T[i].1) ∧ w.cell? ⟨bt, ot + i * 3 + 1, none⟩ = some (.int .i64 T[i].2.1) ∧ w.cell? ⟨bt, ot + i * 3 + 2, none⟩ = some (.string T[i].2.2) := by
 obtain ⟨p, c, e, h1, h2, h3⟩ := h.toks.stays (mask_keeps B w)
 unfold maxLen at h2
 rcases h3 with rfl | ⟨b, o, hp, h3⟩
 · exact ⟨0, 0, c, p, e, h1, by omega, fun h => absurd h (by simp), fun i h => absurd h (by simp)⟩
 · refine ⟨b, o, c, p, e, h1, by omega, fun _ => hp, fun i hi => ?_⟩
   obtain ⟨vs, ⟨us, us', e1, e2, us2, us3, e3, e4, e5⟩, g2, g3⟩ := h3 i hi
   have e2' : us = [.int .i64 T[i].1] := e2
   have e4' : us2 = [.int .i64 T[i].2.1] := e4
   have e5' : us3 = [.string T[i].2.2] := e5
   subst e2' e4' e5' e3 e1
   exact ⟨by simpa using g3 0 _ rfl, by simpa using g3 1 _ rfl, by simpa using g3 2 _ rfl⟩
end
def stopV (c a : Int) : Value := .iface 190 (.agg #[.int .i64 c, .int .i64 a])
def Left (w : World) (B : Nat) (E : Int) (tv : Value) : Prop := ∃ k a b : Int, w.heap[B]? = some (.cells #[tv, .int .i64 k, .int .i64 E, .int .i64 a, .int .i64 b] 194 (0, 0))
theorem Rdr.left {w : World} {B : Nat} {T : List Tok} {E : Int} {tv : Value} {k dp ns : Nat} (h : Rdr w B T E tv k dp ns) : Left w B E tv := ⟨k, dp, ns, h.blk⟩
def Does {α : Type} (w : World) (B : Nat) (T : List Tok) (E : Int) (tv : Value) (dp ns : Nat) (X : World → α → Value → Prop) (r : Rs α) (e : Ending) (w' : World) : Prop :=
 Aside1 B w w' ∧ match r with
  | .ok x k => ∃ v, e = .returned v ∧ Rdr w' B T E tv k dp ns ∧ X (since w.heap.size w') x v
  | .bad c a => e = .panicked [{ v := stopV c a, recovered := false }] ∧ Left w' B E tv
end
section
open Go.RowKit
theorem One.cells {α : Type} {f : α → Value} {w : World} {l : List α} {v : Value} (h : SliceOf (One f) 1 w l v) :
 ∃ b o c p, v = .slice p l.length c ∧ l.length ≤ c ∧ c ≤ 9223372036854775807 ∧ (0 < l.length → p = some ⟨b, o, none⟩) ∧ ∀ (i : Nat) (h : i < l.length), w.cell? ⟨b, o + i, none⟩ = some (f l[i]) := by
 obtain ⟨p, c, e, h1, h2, h3⟩ := h
 unfold maxLen at h2
 rcases h3 with rfl | ⟨b, o, hp, h3⟩
 · exact ⟨0, 0, c, p, e, h1, by omega, fun h => absurd h (by simp), fun i h => absurd h (by simp)⟩
 · refine ⟨b, o, c, p, e, h1, by omega, fun _ => hp, fun i hi => ?_⟩
   obtain ⟨vs, g1, g2, g3⟩ := h3 i hi
   have := g3 0 (f l[i]) (by rw [g1]; rfl)
   simpa using this
theorem eq_len {α : Type} [BEq α] {l m : List α} (h : l.length ≠ m.length) : (l == m) = false := by
 induction l generalizing m with
 | nil => cases m with
   | nil => simp at h
   | cons y m => rfl
 | cons x l ih => cases m with
   | nil => rfl
   | cons y m =>
     have : (l == m) = false := ih (by simpa using h)
     show (x == y && l == m) = false
     rw [this]; simp
theorem eq_at {α : Type} [BEq α] [LawfulBEq α] {l m : List α} {k : Nat} (h1 : k < l.length) (h2 : k < m.length) (h : (l[k] == m[k]) = false) : (l == m) = false := by
 rw [beq_eq_false_iff_ne]
 rintro rfl
 simp at h
theorem eq_all {α : Type} [BEq α] [LawfulBEq α] {l m : List α} (hn : l.length = m.length) (h : ∀ j (h1 : j < l.length) (h2 : j < m.length), (l[j] == m[j]) = true) : (l == m) = true := by
 rw [beq_iff_eq]
 exact List.ext_getElem hn fun j h1 h2 => by simpa using h j h1 h2
theorem below_drewN {B : Nat} {a w : World} (h : Below B a w) (n : Nat) : Below B a (w.drewN n) := ⟨h.os, h.tape, h.output, h.size, h.block⟩
end
section
open Go.RowKit
section
variable {w : World} {B : Nat} {T : List Tok} {E : Int} {tv : Value} {k dp ns : Nat}
theorem tkAt_lt {k : Nat} (h : k < T.length) (E : Int) : tkAt T E k = T[k].2.1 := by unfold tkAt; rw [List.getElem?_eq_getElem h]
theorem tkAt_ge {k : Nat} (h : ¬ k < T.length) (E : Int) : tkAt T E k = E := by unfold tkAt; rw [List.getElem?_eq_none (by omega)]
theorem tkNext_lt {k : Nat} (h : k < T.length) : tkNext T k = T[k] := by unfold tkNext; rw [List.getElem?_eq_getElem h]; rfl
theorem tkNext_ge {k : Nat} (h : ¬ k < T.length) : tkNext T k = (0, 0, ⟨#[]⟩) := by unfold tkNext; rw [List.getElem?_eq_none (by omega)]; rfl
theorem at_calls (h : Rdr w B T E tv k dp ns) : Calls Tryz.prog 183 #[.pointer (some ⟨B, 0, none⟩)] w fun e w' => e = .returned (.int .i64 (tkAt T E k)) ∧ Below w.heap.size w w' := by
 obtain ⟨bt, ot, ct, pt, rfl, hlt, hct, hpt, hcells⟩ := h.open'
 have h0 := h.c0
 have h1 := h.c1
 have h2 := h.c2
 by_cases hk : k < T.length
 · obtain ⟨g0, g1, g2⟩ := hcells k hk
   obtain rfl := hpt (by omega)
   have HA := Hd (tkAt_lt hk E)
   have hk' : (k : Int) < (T.length : Int) := by omega
   have hk0 : (0 : Int) ≤ (k : Int) := by omega
   generalize T[k] = t at *
   clear hcells hpt h
   go_enter Tryz.func183, Tryz.ntmps183
   go_wp2_with (fail)
   go_quiet (fail)
   go_wp2_with (fail)
   go_quiet (fail)
   go_wp2_with (fail)
   go_ret
   exact ⟨by rw [HA.out]; rfl, below_drewN (below_drewN (Below.refl _ _) _) _⟩
 · have HA := Hd (tkAt_ge hk E)
   have hk' : ¬ (k : Int) < (T.length : Int) := by omega
   clear hcells hpt h
   go_enter Tryz.func183, Tryz.ntmps183
   go_wp2_with (fail)
   go_quiet (fail)
   go_wp2_with (fail)
   go_ret
   exact ⟨by rw [HA.out]; rfl, below_drewN (Below.refl _ _) _⟩
theorem cells3 {W : World} {b : Nat} {x y z : Value} (h0 : W.cell? ⟨b, 0, none⟩ = some x) (h1 : W.cell? ⟨b, 1, none⟩ = some y) (h2 : W.cell? ⟨b, 2, none⟩ = some z) (u v t : Value) :
 (((W.setCell ⟨b, 0, none⟩ u).setCell ⟨b, 1, none⟩ v).setCell ⟨b, 2, none⟩ t).cell? ⟨b, 0, none⟩ = some u ∧ (((W.setCell ⟨b, 0, none⟩ u).setCell ⟨b, 1, none⟩ v).setCell ⟨b, 2, none⟩ t).cell? ⟨b, 1, none⟩ = some v ∧ (((W.setCell ⟨b, 0, none⟩ u).setCell ⟨b, 1, none⟩ v).setCell ⟨b, 2, none⟩ t).cell? ⟨b, 2, none⟩ = some t := by
 have e1 : (W.setCell ⟨b, 0, none⟩ u).cell? ⟨b, 1, none⟩ = some y := by rw [World.cell?_setCell_other _ _ _ _ (by simp)]; exact h1
 have e2 : ((W.setCell ⟨b, 0, none⟩ u).setCell ⟨b, 1, none⟩ v).cell? ⟨b, 2, none⟩ = some z := by rw [World.cell?_setCell_other _ _ _ _ (by simp), World.cell?_setCell_other _ _ _ _ (by simp)]; exact h2
 refine ⟨?_, ?_, World.cell?_setCell_same _ _ _ e2⟩
 · rw [World.cell?_setCell_other _ _ _ _ (by simp), World.cell?_setCell_other _ _ _ _ (by simp)]; exact World.cell?_setCell_same _ _ _ h0
 · rw [World.cell?_setCell_other _ _ _ _ (by simp)]; exact World.cell?_setCell_same _ _ _ e1
theorem frozen_new (W : World) (c : Array Value) (t : TypeId) (i : Nat) : (W.alloc (.cells c t)).frozen? ⟨W.heap.size, i, none⟩ = false := by
 unfold World.frozen?
 rw [heap_alloc_new]
 simp
theorem next_calls (h : Rdr w B T E tv k dp ns) : Calls Tryz.prog 164 #[.pointer (some ⟨B, 0, none⟩)] w fun e w' => e = .returned (.agg #[.int .i64 (tkNext T k).1, .int .i64 (tkNext T k).2.1, .string (tkNext T k).2.2]) ∧ Below w.heap.size w w' := by
 obtain ⟨W1, eW⟩ : ∃ W1, w.alloc (.cells #[.int .i64 0, .int .i64 0, .string ⟨#[]⟩] 183) = W1 := ⟨_, rfl⟩
 obtain ⟨z1, hW, m1⟩ := boxes1 eW
 have hfz : ∀ i, W1.frozen? ⟨w.heap.size, i, none⟩ = false := fun i => by rw [← eW]; exact frozen_new _ _ _ i
 have h' := h.below hW
 obtain ⟨bt, ot, ct, pt, rfl, hlt, hct, hpt, hcells⟩ := h'.open'
 have HW := Hd hW
 have HX : Hid (∀ W, Below W1.heap.size W1 W → W.cell? ⟨B, 0, none⟩ = some (.slice pt T.length ct) ∧ W.cell? ⟨B, 1, none⟩ = some (.int .i64 k) ∧ W.cell? ⟨w.heap.size, 0, none⟩ = some (.int .i64 0) ∧ W.cell? ⟨w.heap.size, 1, none⟩ = some (.int .i64 0) ∧ W.cell? ⟨w.heap.size, 2, none⟩ = some (.string ⟨#[]⟩) ∧
  W.frozen? ⟨w.heap.size, 0, none⟩ = false ∧ W.frozen? ⟨w.heap.size, 1, none⟩ = false ∧ W.frozen? ⟨w.heap.size, 2, none⟩ = false) := fun W hb => by
  have hz : w.heap.size < W1.heap.size := by omega
  exact ⟨(hb.cell (p := ⟨B, 0, none⟩) h'.lt).trans h'.c0, (hb.cell (p := ⟨B, 1, none⟩) h'.lt).trans h'.c1, (hb.cell (p := ⟨w.heap.size, 0, none⟩) hz).trans (m1 0), (hb.cell (p := ⟨w.heap.size, 1, none⟩) hz).trans (m1 1), (hb.cell (p := ⟨w.heap.size, 2, none⟩) hz).trans (m1 2),
   (hb.frozen (p := ⟨w.heap.size, 0, none⟩) hz).trans (hfz 0), (hb.frozen (p := ⟨w.heap.size, 1, none⟩) hz).trans (hfz 1), (hb.frozen (p := ⟨w.heap.size, 2, none⟩) hz).trans (hfz 2)⟩
 obtain ⟨a0, a1, a2, a3, a4, a5, a6, a7⟩ := HX.out W1 (Below.refl _ _)
 have HZ : Hid (w.heap.size ≤ w.heap.size) := Nat.le_refl _
 by_cases hk : k < T.length
 · obtain ⟨g0, g1, g2⟩ := hcells k hk
   obtain rfl := hpt (by omega)
   have HA := Hd (tkNext_lt hk)
   have hk' : (k : Int) < (T.length : Int) := by omega
   have hk0 : (0 : Int) ≤ (k : Int) := by omega
   generalize T[k] = t at *
   have HG : Hid (∀ W, Below W1.heap.size W1 W → W.cell? ⟨bt, ot + k * 3, none⟩ = some (.int .i64 t.1) ∧ W.cell? ⟨bt, ot + k * 3 + 1, none⟩ = some (.int .i64 t.2.1) ∧ W.cell? ⟨bt, ot + k * 3 + 2, none⟩ = some (.string t.2.2)) := fun W hb =>
    ⟨(hb.cell (cell_lt g0)).trans g0, (hb.cell (cell_lt g1)).trans g1, (hb.cell (cell_lt g2)).trans g2⟩
   clear hcells hpt h h' m1 z1 hW g0 g1 g2 hfz
   go_enter Tryz.func164, Tryz.ntmps164
   go_wp2_with (fail)
   go_quiet (fail)
   go_wp2_with (fail)
   obtain ⟨W2, e2⟩ : ∃ W2, (W1.drewN nq).drew = W2 := ⟨_, rfl⟩
   have hb2 : Below W1.heap.size W1 W2 := by rw [← e2]; exact (below_drewN (Below.refl _ _) _).drew
   have HB2 := Hd hb2
   obtain ⟨b0, b1, b2, b3, b4, b5, b6, b7⟩ := HX.out W2 hb2
   obtain ⟨c0, c1, c2⟩ := HG.out W2 hb2
   clear hb2 a0 a1 a2 a3 a4 a5 a6 a7 eW
   refine wp_region_calm_tail 10 (by kernel_rfl) (by kernel_rfl) ?_
   rw [e2]
   clear e2
   simp only [List.take_succ_cons, List.take_zero, List.drop_succ_cons, List.drop_zero]
   repeat go_big_quiet_step (fail)
   refine wpQuiet_nil ?_
   go_wp2
   refine bodyPost_ret (v := .agg #[.int .i64 t.1, .int .i64 t.2.1, .string t.2.2]) ?_ rfl ⟨by rw [HA.out], ?_⟩
   · obtain ⟨q0, q1, q2⟩ := cells3 b2 b3 b4 (.int .i64 t.1) (.int .i64 t.2.1) (.string t.2.2)
     simp [results, Tryz.results164, go_sem, q0, q1, q2]
   · exact (((HW.out.trans (HB2.out.mono HW.out.size)).setCell HZ.out _).setCell HZ.out _).setCell HZ.out _
 · have HA := Hd (tkNext_ge hk)
   have hk' : ¬ (k : Int) < (T.length : Int) := by omega
   clear hcells hpt h h' m1 z1 hW hfz
   go_enter Tryz.func164, Tryz.ntmps164
   go_wp2_with (fail)
   go_quiet (fail)
   obtain ⟨W2, e2⟩ : ∃ W2, (W1.drewN nq) = W2 := ⟨_, rfl⟩
   have hb2 : Below W1.heap.size W1 W2 := by rw [← e2]; exact below_drewN (Below.refl _ _) _
   have HB2 := Hd hb2
   obtain ⟨b0, b1, b2, b3, b4, b5, b6, b7⟩ := HX.out W2 hb2
   clear hb2 a0 a1 a2 a3 a4 a5 a6 a7 eW
   rw [e2]
   clear e2
   go_wp2_with (fail)
   refine bodyPost_ret (v := .agg #[.int .i64 0, .int .i64 0, .string ⟨#[]⟩]) ?_ rfl ⟨by rw [HA.out], ?_⟩
   · obtain ⟨q0, q1, q2⟩ := cells3 b2 b3 b4 (.int .i64 0) (.int .i64 0) (.string ⟨#[]⟩)
     simp [results, Tryz.results164, go_sem, q0, q1, q2]
   · exact (((HW.out.trans (HB2.out.mono HW.out.size)).setCell HZ.out _).setCell HZ.out _).setCell HZ.out _
theorem fail_calls (h : Rdr w B T E tv k dp ns) (c : Int) : Calls Tryz.prog 158 #[.pointer (some ⟨B, 0, none⟩), .int .i64 c] w fun e w' => e = .panicked [{ v := stopV c (tkAt T E k), recovered := false }] ∧ Below w.heap.size w w' := by
 have HA := Hd (at_calls h)
 clear h
 go_enter Tryz.func158, Tryz.ntmps158
 go_wp2_with (fail)
 refine HA.out.mono ?_
 rintro e w1 ⟨rfl, hb1⟩
 have HB := Hd hb1
 clear hb1
 go_wp2_with (fail)
 exact ⟨rfl, rfl, HB.out⟩
theorem is_calls (h : Rdr w B T E tv k dp ns) (s : Txt) : Calls Tryz.prog 184 #[.pointer (some ⟨B, 0, none⟩), .string s] w fun e w' => e = .returned (.bool (tkIs T k s)) ∧ Below w.heap.size w w' := by
 have HA := Hd (next_calls h)
 have HT : Hid (tkIs T k s = (((tkNext T k).1 == 3 || (tkNext T k).1 == 4) && (tkNext T k).2.2 == s)) := rfl
 clear h
 generalize tkNext T k = t at *
 go_enter Tryz.func184, Tryz.ntmps184
 go_wp2_with (fail)
 refine HA.out.mono ?_
 rintro e w1 ⟨rfl, hb1⟩
 have HB := Hd hb1
 clear hb1
 have HS : Hid ((t.2.2.toList == s.toList) = (t.2.2 == s)) := by
  unfold Hid
  rw [Bool.eq_iff_iff, bytes_eq, beq_iff_eq]
 go_wp2_with (fail)
 all_goals (
  go_ret
  refine ⟨?_, HB.out.alloc HB.out.size _⟩
  rw [HT.out]
  first
   | exact ret_bool (by rw [HS.out]; simp [*])
   | exact ret_bool (by simp [*]))
theorem tkIs_lt {k : Nat} {s : Txt} (h : tkIs T k s = true) : k < T.length := by
 apply Decidable.byContradiction
 intro hk
 unfold tkIs at h
 rw [tkNext_ge hk] at h
 simp at h
theorem kind_lt {k : Nat} (h : (tkNext T k).1 ≠ 0) : k < T.length := by
 apply Decidable.byContradiction
 intro hk
 rw [tkNext_ge hk] at h
 simp at h
theorem Rdr.len (h : Rdr w B T E tv k dp ns) : T.length ≤ 9223372036854775807 := by
 obtain ⟨_, _, _, _, _, h1, h2, _⟩ := h.open'
 omega
theorem eat_yes (h : Rdr w B T E tv k dp ns) (s : Txt) (hs : tkIs T k s = true) : Calls Tryz.prog 160 #[.pointer (some ⟨B, 0, none⟩), .string s] w fun e w' => e = .returned (.bool true) ∧ Aside1 B w w' ∧ Rdr w' B T E tv (k + 1) dp ns := by
 have HI := Hd (is_calls h s)
 rw [hs] at HI
 have hk := tkIs_lt hs
 have hl := h.len
 have hw : (k : Int) + 1 ≤ 9223372036854775807 := by omega
 have H := Hd h
 clear h hs
 go_enter Tryz.func160, Tryz.ntmps160
 go_wp2_with (fail)
 refine HI.out.mono ?_
 rintro e w1 ⟨rfl, hb1⟩
 have H1 := Hd (H.out.below hb1)
 have HB := Hd hb1
 have c1 := H1.out.c1
 have f1 := H1.out.fz 1
 clear hb1
 go_wp2_with (fail)
 go_ret
 exact ⟨rfl, (aside_below HB.out).trans (aside_set _ _), H1.out.setK (k + 1)⟩
theorem eat_no (h : Rdr w B T E tv k dp ns) (s : Txt) (hs : tkIs T k s = false) : Calls Tryz.prog 160 #[.pointer (some ⟨B, 0, none⟩), .string s] w fun e w' => e = .returned (.bool false) ∧ Aside1 B w w' ∧ Rdr w' B T E tv k dp ns := by
 have HI := Hd (is_calls h s)
 rw [hs] at HI
 have H := Hd h
 clear h hs
 go_enter Tryz.func160, Tryz.ntmps160
 go_wp2_with (fail)
 refine HI.out.mono ?_
 rintro e w1 ⟨rfl, hb1⟩
 have H1 := Hd (H.out.below hb1)
 have HB := Hd hb1
 clear hb1
 go_wp2_with (fail)
 go_ret
 exact ⟨rfl, aside_below HB.out, H1.out⟩
theorem must_calls (h : Rdr w B T E tv k dp ns) (s : Txt) : Calls Tryz.prog 159 #[.pointer (some ⟨B, 0, none⟩), .string s] w (Does w B T E tv dp ns (fun _ _ v => v = .tuple #[]) (mustP T E s k)) := by
 cases hs : tkIs T k s with
 | true =>
   have HI := Hd (eat_yes h s hs)
   have HP : Hid (mustP T E s k = .ok () (k + 1)) := by unfold Hid mustP; rw [if_pos hs]
   clear h hs
   go_enter Tryz.func159, Tryz.ntmps159
   go_wp2_with (fail)
   refine HI.out.mono ?_
   rintro e w1 ⟨rfl, ha, hr⟩
   have HA := Hd ha
   have HR := Hd hr
   clear ha hr
   go_wp2_with (fail)
   refine bodyPost_ret (results_none rfl _ _ _) rfl ?_
   rw [HP.out]
   exact ⟨HA.out, _, rfl, HR.out, rfl⟩
 | false =>
   have HI := Hd (eat_no h s hs)
   have HP : Hid (mustP T E s k = failP T E 1 k) := by unfold Hid mustP; rw [if_neg (by simp [hs])]
   clear h hs
   go_enter Tryz.func159, Tryz.ntmps159
   go_wp2_with (fail)
   refine HI.out.mono ?_
   rintro e w1 ⟨rfl, ha, hr⟩
   have HA := Hd ha
   have HF := Hd (fail_calls hr 1)
   have HR := Hd hr
   clear ha hr
   go_wp2_with (fail)
   refine HF.out.mono ?_
   rintro e w2 ⟨rfl, hb2⟩
   have HB := Hd (HA.out.trans (aside_below hb2))
   have HLF := Hd (HR.out.below hb2).left
   clear hb2
   go_wp2_with (fail)
   rw [HP.out]
   exact ⟨rfl, HB.out, rfl, HLF.out⟩
theorem nameP_calls (h : Rdr w B T E tv k dp ns) : Calls Tryz.prog 163 #[.pointer (some ⟨B, 0, none⟩)] w (Does w B T E tv dp ns (fun _ x v => v = .string x) (nameP T E k)) := by
 have HI := Hd (next_calls h)
 have H := Hd h
 have hl := h.len
 by_cases hs : (tkNext T k).1 = 1
 · have HP : Hid (nameP T E k = .ok (tkNext T k).2.2 (k + 1)) := by unfold Hid nameP; rw [if_pos hs]
   have hk : k < T.length := kind_lt (by omega)
   have hw : (k : Int) + 1 ≤ 9223372036854775807 := by omega
   generalize tkNext T k = t at *
   clear h
   go_enter Tryz.func163, Tryz.ntmps163
   go_wp2_with (fail)
   refine HI.out.mono ?_
   rintro e w1 ⟨rfl, hb1⟩
   obtain ⟨W2, eW⟩ : ∃ W2, w1.alloc (.cells #[.int .i64 1, .int .i64 t.2.1, .string t.2.2] 183) = W2 := ⟨_, rfl⟩
   obtain ⟨z2, hW, m1⟩ := boxes1 eW
   have j0 := m1 0
   have j2 := m1 2
   simp only [List.getElem?_toArray, List.getElem?_cons_zero, List.getElem?_cons_succ] at j0 j2
   have hb2 := hb1.trans (hW.mono hb1.size)
   have H2 := Hd (H.out.below hb2)
   have c1 := H2.out.c1
   have f1 := H2.out.fz 1
   have hne : w1.heap.size ≠ B := by have := H.out.lt; have := hb1.size; omega
   have jj2 : (W2.setCell ⟨B, 1, none⟩ (.int .i64 ((k : Int) + 1))).cell? ⟨w1.heap.size, 2, none⟩ = some (.string t.2.2) := by rw [World.cell?_setCell_other _ _ _ _ (by simp [hne])]; exact j2
   have HA := Hd (aside_below (B := B) hb2)
   clear hb1 hb2 hW z2 m1 hne
   rw [hs]
   go_wp2_with (fail)
   go_ret
   rw [HP.out]
   exact ⟨HA.out.trans (aside_set _ _), _, rfl, H2.out.setK (k + 1), rfl⟩
 · have HP : Hid (nameP T E k = failP T E 1 k) := by unfold Hid nameP; rw [if_neg hs]
   generalize tkNext T k = t at *
   clear h
   go_enter Tryz.func163, Tryz.ntmps163
   go_wp2_with (fail)
   refine HI.out.mono ?_
   rintro e w1 ⟨rfl, hb1⟩
   obtain ⟨W2, eW⟩ : ∃ W2, w1.alloc (.cells #[.int .i64 t.1, .int .i64 t.2.1, .string t.2.2] 183) = W2 := ⟨_, rfl⟩
   obtain ⟨z2, hW, m1⟩ := boxes1 eW
   have j0 := m1 0
   simp only [List.getElem?_toArray, List.getElem?_cons_zero, List.getElem?_cons_succ] at j0
   have hb2 := hb1.trans (hW.mono hb1.size)
   have HF := Hd (fail_calls (H.out.below hb2) 1)
   have HR := Hd (H.out.below hb2)
   have HA := Hd (aside_below (B := B) hb2)
   clear hb1 hb2 hW z2 m1
   go_wp2_with (fail)
   refine HF.out.mono ?_
   rintro e w3 ⟨rfl, hb3⟩
   have HB := Hd (HA.out.trans (aside_below hb3))
   have HLF := Hd (HR.out.below hb3).left
   clear hb3
   go_wp2_with (fail)
   rw [HP.out]
   exact ⟨rfl, HB.out, rfl, HLF.out⟩
theorem into_calls4 (h : Rdr w B T E tv k dp ns) (hn : ns ≤ 12) : Calls Tryz.prog 245 #[.pointer (some ⟨B, 0, none⟩), .pointer (some ⟨B, 4, none⟩)] w fun e w' => Aside1 B w w' ∧ if ns < 12 then e = .returned (.tuple #[]) ∧ Rdr w' B T E tv k dp (ns + 1) else e = .panicked [{ v := stopV 2 (tkAt T E k), recovered := false }] ∧ Left w' B E tv := by
 have c4 := h.c4
 have f4 := h.fz 4
 have H1 := Hd (h.setN (ns + 1))
 have d4 := H1.out.c4
 have hns : ((ns + 1 : Nat) : Int) = (ns : Int) + 1 := by omega
 rw [hns] at d4 H1
 by_cases hs : ns < 12
 · have hs' : ¬ (12 : Int) < (ns : Int) + 1 := by omega
   clear h hns
   go_enter Tryz.func245, Tryz.ntmps245
   go_wp2_with (fail)
   go_end0
   exact ⟨aside_set _ _, by first | exact ⟨rfl, H1.out⟩ | (rw [if_pos hs]; exact ⟨rfl, H1.out⟩)⟩
 · have hs' : (12 : Int) < (ns : Int) + 1 := by omega
   have HF := Hd (fail_calls H1.out 2)
   clear h hns
   go_enter Tryz.func245, Tryz.ntmps245
   go_wp2_with (fail)
   refine HF.out.mono ?_
   rintro e w3 ⟨rfl, hb3⟩
   have HB := Hd ((aside_set (B := B) (w := w) 4 (.int .i64 ((ns : Int) + 1))).trans (aside_below hb3))
   have HLF := Hd (H1.out.below hb3).left
   clear hb3
   go_wp2_with (fail)
   exact ⟨rfl, HB.out, by first | exact ⟨rfl, HLF.out⟩ | (rw [if_neg hs]; exact ⟨rfl, HLF.out⟩)⟩
end
end
section
open Go.RowKit
theorem own_aside {w w' : World} {B base : Nat} {e : TypeId} {size : Nat} {v : Value} {n : Nat} {xs : List Value} (h : w.ownsRow base e size v n xs) (hB : B < base) (ha : Aside1 B w w') : w'.ownsRow base e size v n xs :=
 h.kept ha (by
  cases hv : v.ownBlock with
  | none => exact .inl rfl
  | some g =>
    refine .inr fun e => ?_
    have := (h.lt g hv).1
    simp at e
    omega)
theorem own_hide {w : World} {p : Nat → Bool} {base : Nat} {e : TypeId} {size : Nat} {v : Value} {n : Nat} {xs : List Value} (h : w.ownsRow base e size v n xs) (hp : ∀ g, base ≤ g → p g = false) : (hide p w).ownsRow base e size v n xs := by
 refine ⟨h.1, ?_⟩
 rcases h.2 with h2 | ⟨g, cap, cur, e0, e1, e2, e3⟩
 · exact .inl h2
 · refine .inr ⟨g, cap, cur, e0, e1, ?_, e3⟩
   unfold hide
   simp [Array.getElem?_mapIdx, e2, hp g e1]
def inList (n : Nat) (lv : Value) : Nat → Bool := fun b => decide (b < n) || (lv.ownBlock == some b)
structure LI {α : Type} (Ec : Enc α) (ks : Nat) (et : TypeId) (w wo : World) (B : Nat) (T : List Tok) (E : Int) (tv : Value) (dp ns : Nat) (lv : Value) (xs : List α) (k : Nat) : Prop where
 rdr : Rdr wo B T E tv k dp ns
 aside : Aside1 B w wo
 own : ∃ vals, wo.ownsRow w.heap.size et ks lv xs.length vals ∧ Rows Ec ks (hide (inList w.heap.size lv) wo) xs vals
section
variable {α : Type} {Ec : Enc α} {ks : Nat} {et : TypeId} {w wo wn : World} {B : Nat} {T : List Tok} {E : Int} {tv : Value} {dp ns : Nat} {lv : Value} {xs : List α} {k k' : Nat}
theorem LI.step (hE : Stays Ec) (hB : B < w.heap.size) (h : LI Ec ks et w wo B T E tv dp ns lv xs k) (ha : Aside1 B wo wn) (hr : Rdr wn B T E tv k' dp ns) : LI Ec ks et w wn B T E tv dp ns lv xs k' := by
 obtain ⟨vals, h1, h2⟩ := h.own
 refine ⟨hr, h.aside.trans ha, vals, own_aside h1 hB ha, Rows.stays hE (keeps_hide ha.size fun b hb hp => ⟨hp, ha.block b hb (fun e => ?_)⟩) h2⟩
 simp [inList] at e hp
 omega
theorem LI.below (hE : Stays Ec) (hB : B < w.heap.size) (h : LI Ec ks et w wo B T E tv dp ns lv xs k) (hb : Below wo.heap.size wo wn) : LI Ec ks et w wn B T E tv dp ns lv xs k :=
 h.step hE hB (aside_below hb) (h.rdr.below hb)
theorem LI.done (h : LI Ec ks et w wo B T E tv dp ns lv xs k) (hE : Stays Ec) : SliceOf Ec ks (since w.heap.size wo) xs lv := by
 obtain ⟨vals, h1, h2⟩ := h.own
 refine SliceOf.of_rows (own_hide h1 fun g hg => by simp; omega) (Rows.stays hE (keeps_hide (Nat.le_refl _) fun b hb hp => ⟨?_, rfl⟩) h2)
 simp [inList] at hp ⊢
 omega
theorem LI.slice (h : LI Ec ks et w wo B T E tv dp ns lv xs k) : ∃ p c, lv = .slice p xs.length c := by
 obtain ⟨vals, h1, _⟩ := h.own
 rcases h1.2 with ⟨rfl, e⟩ | ⟨g, cap, cur, rfl, _⟩
 · exact ⟨none, 0, by rw [e]⟩
 · exact ⟨_, _, rfl⟩
theorem LI.push (hE : Stays Ec) (hB : B < w.heap.size) (ht : Toks (mask B w) T tv) (htab : Tab (mask B w)) (h : LI Ec ks et w wo B T E tv dp ns lv xs k) {vals us : List Value} {w5 : World} {v5 : Value} {x : α} {n1 : Nat}
 (hrows : Rows Ec ks (hide (inList w.heap.size lv) wo) xs vals) (hx : Ec (since n1 wo) x us) (hus : us.length = ks) (hn1 : w.heap.size ≤ n1) (hn2 : ∀ g, lv.ownBlock = some g → w.heap.size ≤ g ∧ g < n1)
 (hown : w5.ownsRow w.heap.size et ks v5 (xs.length + 1) (vals ++ us)) (hg : wo.grownBy w5 lv.ownBlock) (hv : v5.ownBlock = lv.ownBlock ∨ v5.ownBlock = some wo.heap.size) :
 LI Ec ks et w w5 B T E tv dp ns v5 (xs ++ [x]) k := by
 have hblk : w5.heap[B]? = wo.heap[B]? := hg.block B h.rdr.lt (fun e => by have := (hn2 B e.symm).1; omega)
 have hne : ∀ b, b < wo.heap.size → inList w.heap.size lv b = false → inList w.heap.size v5 b = false ∧ w5.heap[b]? = wo.heap[b]? := fun b hb hp => by
  simp [inList] at hp
  refine ⟨?_, hg.block b hb (fun e => hp.2 e.symm)⟩
  simp only [inList, Bool.or_eq_false_iff, decide_eq_false_iff_not, Nat.not_lt, beq_eq_false_iff_ne, ne_eq]
  refine ⟨hp.1, fun e => ?_⟩
  rcases hv with hv | hv
  · rw [hv] at e; exact hp.2 e
  · rw [hv] at e; simp at e; omega
 have hk : Keeps (hide (inList w.heap.size lv) wo) (hide (inList w.heap.size v5) w5) := keeps_hide hg.size hne
 have hk2 : Keeps (since n1 wo) (hide (inList w.heap.size lv) wo) := keeps_hide (Nat.le_refl _) fun b hb hp => ⟨by
  simp only [inList, Bool.or_eq_false_iff, decide_eq_false_iff_not, Nat.not_lt, beq_eq_false_iff_ne, ne_eq]
  simp at hp
  exact ⟨by omega, fun e => by have := (hn2 b e).2; omega⟩, rfl⟩
 have has : Aside1 B w w5 := ⟨hg.os.trans h.aside.os, hg.tape.trans h.aside.tape, hg.output.trans h.aside.output, Nat.le_trans h.aside.size hg.size, fun i hi hne =>
  (hg.block i (Nat.lt_of_lt_of_le hi h.aside.size) (fun e => by have := (hn2 i e.symm).1; omega)).trans (h.aside.block i hi hne)⟩
 exact ⟨⟨by rw [hblk]; exact h.rdr.blk, ht.stays has.keeps, htab.aside has⟩, has, vals ++ us, by simpa using hown, Rows.append (Rows.stays hE hk hrows) (.one (hE _ _ _ _ (hk2.trans hk) hx) hus)⟩
theorem LI.first (hE : Stays Ec) {w1 : World} (hr : Rdr w1 B T E tv k dp ns) (ha : Aside1 B w w1) {x : α} {us : List Value} (hx : Ec (since w.heap.size w1) x us) (hus : us.length = ks) (hks : 0 < ks) :
 LI Ec ks et w (w1.alloc (.cells us.toArray et)) B T E tv dp ns (.slice (some ⟨w1.heap.size, 0, none⟩) 1 1) [x] k := by
 have hb : Below w1.heap.size w1 (w1.alloc (.cells us.toArray et)) := (Below.refl _ _).alloc (Nat.le_refl _) _
 refine ⟨hr.below hb, ha.trans (aside_below hb), us, ?_, .one (hE _ _ _ _ (keeps_hide hb.size fun b hb1 hp => ⟨?_, hb.block b hb1⟩) hx) hus⟩
 · have := World.ownsRow_lit (base := w.heap.size) (e := et) (size := ks) w1 us.toArray 1 ha.size (by unfold maxLen; omega) (by simp [hus])
   simpa using this
 · simp [inList, Value.ownBlock] at hp ⊢
   omega
end
def PolIs (w : World) (x : Pol) (v : Value) : Prop := ∃ vr, v = .agg #[.string x.1, vr] ∧ Strs w x.2 vr
theorem Tryz.info_policyP : (Tryz.prog.info? 92).map (fun i => (i.zero, i.size, i.bytes)) = some (some (.agg #[.string ⟨#[]⟩, .slice none 0 0]), 2, 40) := by kernel_rfl
theorem Tryz.info_stringP : (Tryz.prog.info? 9).map (fun i => (i.zero, i.size, i.bytes)) = some (some (.string ⟨#[]⟩), 1, 16) := by kernel_rfl
theorem Tryz.info_exprP : (Tryz.prog.info? 26).map (fun i => (i.zero, i.size, i.bytes)) = some (some (.agg #[.int .i64 0, .int .i64 0, .int .i64 0, .int .i64 0, .string ⟨#[]⟩, .slice none 0 0, .slice none 0 0]), 7, 96) := by kernel_rfl
end
section
open Go.RowKit Go.Maps
theorem listStr_calls (gb : Nat) {w : World} {B : Nat} {T : List Tok} {E : Int} {tv : Value} {k0 dp ns : Nat} (h : Rdr w B T E tv k0 dp ns) (one : Nat → Rs Txt) (most : Nat) (sign : Txt) (hm0 : 0 < most) (hm : most ≤ 200)
 (hone : ∀ (W : World) (k : Nat), Aside1 B w W → Rdr W B T E tv k dp ns → Calls Tryz.prog 163 #[.pointer (some ⟨B, 0, none⟩)] W (Does W B T E tv dp ns (fun _ x v => v = .string x) (one k))) :
 Calls Tryz.prog 165 #[.pointer (some ⟨B, 0, none⟩), .int .i64 most, .string sign, .func (.func 163) #[.pointer (some ⟨B, 0, none⟩)] #[]] w (Does w B T E tv dp ns (fun W l v => SliceOf txt 1 W l v) (listP T E one most sign k0)) := by
 obtain ⟨t0, hi, hz0, hz1, hz2⟩ := info_parts Tryz.info_stringP
 have eg : ∀ args w, (callFunc 163 args).run Tryz.prog w = .ok (.enter 163 args) w := enters_at Tryz.func163 (by kernel_rfl) rfl
 have HB : Hid (B < w.heap.size) := h.lt
 have HT := Hd h.toks
 have HTAB := Hd h.tab
 have HONE := Hd hone
 have hst : Stays txt := One.stays _
 have HST := Hd hst
 have h1 := hone w k0 (Aside1.refl _ _) h
 have HP : Hid (listP T E one most sign k0 = (one k0).bind fun x k' => listGo T E one most sign most [x] k') := rfl
 clear hone h hst
 cases hr : one k0 with
 | bad c a =>
   rw [hr] at h1 HP
   have H1 := Hd h1
   clear h1 hr
   go_enter Tryz.func165, Tryz.ntmps165
   go_wp2_with (fail)
   refine H1.out.mono ?_
   rintro e w1 ⟨ha, rfl, hlf⟩
   have HA := Hd ha
   have HLF := Hd hlf
   clear hlf
   clear ha
   go_wp2_with (fail)
   rw [HP.out]
   exact ⟨rfl, HA.out, rfl, HLF.out⟩
 | ok x k1 =>
   rw [hr] at h1 HP
   have H1 := Hd h1
   clear h1 hr
   go_enter Tryz.func165, Tryz.ntmps165
   go_wp2_with (fail)
   refine H1.out.mono ?_
   rintro e w1 ⟨ha, v1, rfl, hr1, hx⟩
   obtain rfl := hx
   have HXE : Hid (txt (since w.heap.size w1) x [.string x]) := rfl
   have HL := Hd (LI.first (ks := 1) (et := 9) HST.out hr1 ha HXE.out rfl (by decide))
   obtain ⟨W2, eW⟩ : ∃ W2, w1.alloc (.cells #[.string x] 9) = W2 := ⟨_, rfl⟩
   have HL2 : Hid (LI txt 1 9 w W2 B T E tv dp ns (.slice (some ⟨w1.heap.size, 0, none⟩) 1 1) [x] k1) := by rw [← eW]; exact HL.out
   clear ha hr1 HL
   go_wp2_with (fail)
   go_loopg [9] most (fun f lv ws => ∃ (xs : List Txt) (k : Nat) (wo : World) (vv : Value), vv = lv ∧ wo = ws ∧ Hid (0 < f ∧ xs.length + f = most + 1) ∧ Hid (listP T E one most sign k0 = listGo T E one most sign f xs k) ∧ Hid (LI txt 1 9 w wo B T E tv dp ns vv xs k))
   case atStart => exact ⟨[x], k1, _, _, rfl, rfl, ⟨hm0, by simp; omega⟩, HP.out, HL2.out⟩
   case round =>
    clear HL2 H1 HP HXE
    obtain ⟨xs, k, wo, vv, rfl, rfl, HF, HG, HLI⟩ := hrel
    obtain ⟨p9, c9, rfl⟩ := HLI.out.slice
    obtain ⟨f, rfl⟩ : ∃ f, gk = f + 1 := ⟨gk - 1, by have := HF.out; omega⟩
    have HIS := Hd (is_calls HLI.out.rdr sign)
    cases hs : tkIs T k sign with
    | false =>
      rw [hs] at HIS
      have HE : Hid (listP T E one most sign k0 = .ok xs k) := by
       unfold Hid; rw [HG.out]; unfold listGo; rw [if_neg (by simp [hs])]
      clear hs
      go_wp2_with (fail)
      refine HIS.out.mono ?_
      rintro e w3 ⟨rfl, hb3⟩
      have HL3 := Hd (HLI.out.below HST.out HB.out hb3)
      clear hb3
      go_wp2_with (fail)
      go_ret
      rw [HE.out]
      exact ⟨HL3.out.aside, _, rfl, HL3.out.rdr, HL3.out.done HST.out⟩
    | true =>
      rw [hs] at HIS
      have HGO : Hid (listGo T E one most sign (f + 1) xs k = if xs.length = most then failP T E 2 k else (one (k + 1)).bind fun y k' => listGo T E one most sign f (xs ++ [y]) k') := by
       unfold Hid; rw [listGo, if_pos hs]
      have HMU : Hid (mustP T E sign k = .ok () (k + 1)) := by unfold Hid mustP; rw [if_pos hs]
      clear hs
      by_cases hml : xs.length = most
      · have HE : Hid (listP T E one most sign k0 = failP T E 2 k) := by unfold Hid; rw [HG.out, HGO.out, if_pos hml]
        have hml' : (xs.length : Int) = (most : Int) := by omega
        clear hml
        go_wp2_with (fail)
        refine HIS.out.mono ?_
        rintro e w3 ⟨rfl, hb3⟩
        have HL3 := Hd (HLI.out.below HST.out HB.out hb3)
        have HFA := Hd (fail_calls HL3.out.rdr 2)
        clear hb3
        go_wp2_with (fail)
        refine HFA.out.mono ?_
        rintro e w4 ⟨rfl, hb4⟩
        have HA4 := Hd (HL3.out.aside.trans (aside_below hb4))
        have HLF := Hd (HL3.out.rdr.below hb4).left
        clear hb4
        go_wp2_with (fail)
        rw [HE.out]
        exact ⟨rfl, HA4.out, rfl, HLF.out⟩
      · have HNX : Hid (listP T E one most sign k0 = (one (k + 1)).bind fun y k' => listGo T E one most sign f (xs ++ [y]) k') := by unfold Hid; rw [HG.out, HGO.out, if_neg hml]
        have hml' : ¬ (xs.length : Int) = (most : Int) := by omega
        have HLT : Hid (xs.length < most) := by have := HF.out; unfold Hid; omega
        clear hml
        go_wp2_with (fail)
        refine HIS.out.mono ?_
        rintro e w3 ⟨rfl, hb3⟩
        have HL3 := Hd (HLI.out.below HST.out HB.out hb3)
        have HMC := Hd (must_calls HL3.out.rdr sign)
        rw [HMU.out] at HMC
        clear hb3
        go_wp2_with (fail)
        refine HMC.out.mono ?_
        rintro e w4 ⟨ha4, v4, rfl, hr4, rfl⟩
        have HL4 := Hd (HL3.out.step HST.out HB.out ha4 hr4)
        have hcall := HONE.out w4 (k + 1) HL4.out.aside hr4
        clear ha4 hr4
        cases hry : one (k + 1) with
        | bad c a =>
          rw [hry] at hcall HNX
          have HCA := Hd hcall
          clear hcall hry
          go_wp2_with (fail)
          refine HCA.out.mono ?_
          rintro e w5 ⟨ha5, rfl, hlf⟩
          have HLF := Hd hlf
          clear hlf
          have HA5 := Hd (HL4.out.aside.trans ha5)
          clear ha5
          go_wp2_with (fail)
          rw [HNX.out]
          exact ⟨rfl, HA5.out, rfl, HLF.out⟩
        | ok y k2 =>
          rw [hry] at hcall HNX
          have HCA := Hd hcall
          clear hcall hry
          go_wp2_with (fail)
          refine HCA.out.mono ?_
          rintro e w5 ⟨ha5, v5, rfl, hr5, hx⟩
          obtain rfl := hx
          have HXE : Hid (txt (since w4.heap.size w5) y [.string y]) := rfl
          have HL5 := Hd (HL4.out.step HST.out HB.out ha5 hr5)
          have HSZ : Hid (w.heap.size ≤ w4.heap.size) := HL4.out.aside.size
          have HOW4 : Hid (∀ g, (Value.slice p9 xs.length c9).ownBlock = some g → w.heap.size ≤ g ∧ g < w4.heap.size) := fun g hg => by
           obtain ⟨vals, q1, _⟩ := HL4.out.own
           exact q1.lt g hg
          obtain ⟨vals, hown5, hrows5⟩ := HL5.out.own
          have HROWS := Hd hrows5
          have hsz5 := HL5.out.aside.size
          have hlm := HLT.out
          clear ha5 hr5 hrows5
          obtain ⟨W6, eW6⟩ : ∃ W6, w5.alloc (.cells #[.string y] 9) = W6 := ⟨_, rfl⟩
          obtain ⟨z6, hW6, m6⟩ := boxes1 eW6
          have hown6 : W6.ownsRow w.heap.size 9 1 (.slice p9 xs.length c9) xs.length vals := own_below hown5 hW6
          have HL6 := Hd (HL5.out.below HST.out HB.out hW6)
          have HROW6 : Hid (Rows txt 1 (hide (inList w.heap.size (.slice p9 xs.length c9)) W6) xs vals) := Rows.stays HST.out (keeps_hide hW6.size fun b hb hp => ⟨hp, hW6.block b hb⟩) HROWS.out
          have HXE6 : Hid (txt (since w4.heap.size W6) y [.string y]) := HST.out _ _ _ _ (keeps_hide hW6.size fun b hb hp => ⟨hp, hW6.block b hb⟩) HXE.out
          have hsz6 : w.heap.size ≤ W6.heap.size := by omega
          clear hown5 z6 hW6
          go_wp2_with (at_builtin; refine wpList_append_own_at _ rfl _ _ 46 rfl w.heap.size 9 t0 (.string ⟨#[]⟩) 1 16 Tryz.underlying46 hi hz0 hz1 hz2 rfl (by decide) _ _ _ rfl hown6 ⟨w5.heap.size, 0, none⟩ 1 1 [.string y] rfl rfl ?c1 ?c2 ?c3 ?c4 ?c5 ?_)
          case c1 =>
           intro i u hj
           rw [Go.WideShapes.add_plain, Nat.zero_add, m6 i]
           simpa using hj
          case c2 => intro u hu; simp at hu; first | (subst hu; rfl) | (rcases hu with hu | hu <;> subst hu <;> rfl) | (rcases hu with hu | hu | hu <;> subst hu <;> rfl) | (rcases hu with hu | hu | hu | hu | hu | hu | hu <;> subst hu <;> rfl)
          case c3 => unfold maxLen; omega
          case c4 => omega
          case c5 => exact hsz6
          · intro v7 w7 hown7 hg7 _ hb7
            have HN : Hid (LI txt 1 9 w w7 B T E tv dp ns v7 (xs ++ [y]) k2) := HL6.out.push HST.out HB.out HT.out HTAB.out HROW6.out HXE6.out rfl HSZ.out HOW4.out hown7 hg7 hb7
            clear hown7 hg7 hb7 hown6 m6
            go_wp2_with (fail)
            go_roundg f
            case measure => omega
            case rel => exact ⟨xs ++ [y], k2, _, _, rfl, rfl, ⟨by have := HF.out; have := HLT.out; omega, by have := HF.out; simp; omega⟩, HNX.out, HN.out⟩
theorem listPol_calls (gb : Nat) {w : World} {B : Nat} {T : List Tok} {E : Int} {tv : Value} {k0 dp ns : Nat} (h : Rdr w B T E tv k0 dp ns) (one : Nat → Rs Pol) (most : Nat) (sign : Txt) (hm0 : 0 < most) (hm : most ≤ 200)
 (hone : ∀ (W : World) (k : Nat), Aside1 B w W → Rdr W B T E tv k dp ns → Calls Tryz.prog 162 #[.pointer (some ⟨gb, 0, none⟩)] W (Does W B T E tv dp ns PolIs (one k))) :
 Calls Tryz.prog 161 #[.pointer (some ⟨B, 0, none⟩), .int .i64 most, .string sign, .func (.func 162) #[] #[.pointer (some ⟨gb, 0, none⟩)]] w (Does w B T E tv dp ns (fun W l v => SliceOf pol 2 W l v) (listP T E one most sign k0)) := by
 obtain ⟨t0, hi, hz0, hz1, hz2⟩ := info_parts Tryz.info_policyP
 have eg : ∀ args w, (callFunc 162 args).run Tryz.prog w = .ok (.enter 162 args) w := enters_at Tryz.func162 (by kernel_rfl) rfl
 have HB : Hid (B < w.heap.size) := h.lt
 have HT := Hd h.toks
 have HTAB := Hd h.tab
 have HONE := Hd hone
 have hst : Stays pol := pol_stays
 have HST := Hd hst
 have h1 := hone w k0 (Aside1.refl _ _) h
 have HP : Hid (listP T E one most sign k0 = (one k0).bind fun x k' => listGo T E one most sign most [x] k') := rfl
 clear hone h hst
 cases hr : one k0 with
 | bad c a =>
   rw [hr] at h1 HP
   have H1 := Hd h1
   clear h1 hr
   go_enter Tryz.func161, Tryz.ntmps161
   go_wp2_with (fail)
   refine H1.out.mono ?_
   rintro e w1 ⟨ha, rfl, hlf⟩
   have HA := Hd ha
   have HLF := Hd hlf
   clear hlf
   clear ha
   go_wp2_with (fail)
   rw [HP.out]
   exact ⟨rfl, HA.out, rfl, HLF.out⟩
 | ok x k1 =>
   rw [hr] at h1 HP
   have H1 := Hd h1
   clear h1 hr
   go_enter Tryz.func161, Tryz.ntmps161
   go_wp2_with (fail)
   refine H1.out.mono ?_
   rintro e w1 ⟨ha, v1, rfl, hr1, hx⟩
   obtain ⟨vr, rfl, hvr⟩ := hx
   obtain ⟨_, _, cr, pr, rfl, _⟩ := hvr.cells
   have HXE : Hid (pol (since w.heap.size w1) x [.string x.1, .slice pr x.2.length cr]) := ⟨[.string x.1], [.slice pr x.2.length cr], rfl, rfl, ⟨_, rfl, hvr⟩⟩
   clear hvr
   have HL := Hd (LI.first (ks := 2) (et := 92) HST.out hr1 ha HXE.out rfl (by decide))
   obtain ⟨W2, eW⟩ : ∃ W2, w1.alloc (.cells #[.string x.1, .slice pr x.2.length cr] 92) = W2 := ⟨_, rfl⟩
   have HL2 : Hid (LI pol 2 92 w W2 B T E tv dp ns (.slice (some ⟨w1.heap.size, 0, none⟩) 1 1) [x] k1) := by rw [← eW]; exact HL.out
   clear ha hr1 HL
   go_wp2_with (fail)
   go_loopg [9] most (fun f lv ws => ∃ (xs : List Pol) (k : Nat) (wo : World) (vv : Value), vv = lv ∧ wo = ws ∧ Hid (0 < f ∧ xs.length + f = most + 1) ∧ Hid (listP T E one most sign k0 = listGo T E one most sign f xs k) ∧ Hid (LI pol 2 92 w wo B T E tv dp ns vv xs k))
   case atStart => exact ⟨[x], k1, _, _, rfl, rfl, ⟨hm0, by simp; omega⟩, HP.out, HL2.out⟩
   case round =>
    clear HL2 H1 HP HXE
    obtain ⟨xs, k, wo, vv, rfl, rfl, HF, HG, HLI⟩ := hrel
    obtain ⟨p9, c9, rfl⟩ := HLI.out.slice
    obtain ⟨f, rfl⟩ : ∃ f, gk = f + 1 := ⟨gk - 1, by have := HF.out; omega⟩
    have HIS := Hd (is_calls HLI.out.rdr sign)
    cases hs : tkIs T k sign with
    | false =>
      rw [hs] at HIS
      have HE : Hid (listP T E one most sign k0 = .ok xs k) := by
       unfold Hid; rw [HG.out]; unfold listGo; rw [if_neg (by simp [hs])]
      clear hs
      go_wp2_with (fail)
      refine HIS.out.mono ?_
      rintro e w3 ⟨rfl, hb3⟩
      have HL3 := Hd (HLI.out.below HST.out HB.out hb3)
      clear hb3
      go_wp2_with (fail)
      go_ret
      rw [HE.out]
      exact ⟨HL3.out.aside, _, rfl, HL3.out.rdr, HL3.out.done HST.out⟩
    | true =>
      rw [hs] at HIS
      have HGO : Hid (listGo T E one most sign (f + 1) xs k = if xs.length = most then failP T E 2 k else (one (k + 1)).bind fun y k' => listGo T E one most sign f (xs ++ [y]) k') := by
       unfold Hid; rw [listGo, if_pos hs]
      have HMU : Hid (mustP T E sign k = .ok () (k + 1)) := by unfold Hid mustP; rw [if_pos hs]
      clear hs
      by_cases hml : xs.length = most
      · have HE : Hid (listP T E one most sign k0 = failP T E 2 k) := by unfold Hid; rw [HG.out, HGO.out, if_pos hml]
        have hml' : (xs.length : Int) = (most : Int) := by omega
        clear hml
        go_wp2_with (fail)
        refine HIS.out.mono ?_
        rintro e w3 ⟨rfl, hb3⟩
        have HL3 := Hd (HLI.out.below HST.out HB.out hb3)
        have HFA := Hd (fail_calls HL3.out.rdr 2)
        clear hb3
        go_wp2_with (fail)
        refine HFA.out.mono ?_
        rintro e w4 ⟨rfl, hb4⟩
        have HA4 := Hd (HL3.out.aside.trans (aside_below hb4))
        have HLF := Hd (HL3.out.rdr.below hb4).left
        clear hb4
        go_wp2_with (fail)
        rw [HE.out]
        exact ⟨rfl, HA4.out, rfl, HLF.out⟩
      · have HNX : Hid (listP T E one most sign k0 = (one (k + 1)).bind fun y k' => listGo T E one most sign f (xs ++ [y]) k') := by unfold Hid; rw [HG.out, HGO.out, if_neg hml]
        have hml' : ¬ (xs.length : Int) = (most : Int) := by omega
        have HLT : Hid (xs.length < most) := by have := HF.out; unfold Hid; omega
        clear hml
        go_wp2_with (fail)
        refine HIS.out.mono ?_
        rintro e w3 ⟨rfl, hb3⟩
        have HL3 := Hd (HLI.out.below HST.out HB.out hb3)
        have HMC := Hd (must_calls HL3.out.rdr sign)
        rw [HMU.out] at HMC
        clear hb3
        go_wp2_with (fail)
        refine HMC.out.mono ?_
        rintro e w4 ⟨ha4, v4, rfl, hr4, rfl⟩
        have HL4 := Hd (HL3.out.step HST.out HB.out ha4 hr4)
        have hcall := HONE.out w4 (k + 1) HL4.out.aside hr4
        clear ha4 hr4
        cases hry : one (k + 1) with
        | bad c a =>
          rw [hry] at hcall HNX
          have HCA := Hd hcall
          clear hcall hry
          go_wp2_with (fail)
          refine HCA.out.mono ?_
          rintro e w5 ⟨ha5, rfl, hlf⟩
          have HLF := Hd hlf
          clear hlf
          have HA5 := Hd (HL4.out.aside.trans ha5)
          clear ha5
          go_wp2_with (fail)
          rw [HNX.out]
          exact ⟨rfl, HA5.out, rfl, HLF.out⟩
        | ok y k2 =>
          rw [hry] at hcall HNX
          have HCA := Hd hcall
          clear hcall hry
          go_wp2_with (fail)
          refine HCA.out.mono ?_
          rintro e w5 ⟨ha5, v5, rfl, hr5, hx⟩
          obtain ⟨vr2, rfl, hvr⟩ := hx
          obtain ⟨_, _, cs, ps, rfl, _⟩ := hvr.cells
          have HXE : Hid (pol (since w4.heap.size w5) y [.string y.1, .slice ps y.2.length cs]) := ⟨[.string y.1], [.slice ps y.2.length cs], rfl, rfl, ⟨_, rfl, hvr⟩⟩
          clear hvr
          have HL5 := Hd (HL4.out.step HST.out HB.out ha5 hr5)
          have HSZ : Hid (w.heap.size ≤ w4.heap.size) := HL4.out.aside.size
          have HOW4 : Hid (∀ g, (Value.slice p9 xs.length c9).ownBlock = some g → w.heap.size ≤ g ∧ g < w4.heap.size) := fun g hg => by
           obtain ⟨vals, q1, _⟩ := HL4.out.own
           exact q1.lt g hg
          obtain ⟨vals, hown5, hrows5⟩ := HL5.out.own
          have HROWS := Hd hrows5
          have hsz5 := HL5.out.aside.size
          have hlm := HLT.out
          clear ha5 hr5 hrows5
          obtain ⟨W6, eW6⟩ : ∃ W6, w5.alloc (.cells #[.string y.1, .slice ps y.2.length cs] 92) = W6 := ⟨_, rfl⟩
          obtain ⟨z6, hW6, m6⟩ := boxes1 eW6
          have hown6 : W6.ownsRow w.heap.size 92 2 (.slice p9 xs.length c9) xs.length vals := own_below hown5 hW6
          have HL6 := Hd (HL5.out.below HST.out HB.out hW6)
          have HROW6 : Hid (Rows pol 2 (hide (inList w.heap.size (.slice p9 xs.length c9)) W6) xs vals) := Rows.stays HST.out (keeps_hide hW6.size fun b hb hp => ⟨hp, hW6.block b hb⟩) HROWS.out
          have HXE6 : Hid (pol (since w4.heap.size W6) y [.string y.1, .slice ps y.2.length cs]) := HST.out _ _ _ _ (keeps_hide hW6.size fun b hb hp => ⟨hp, hW6.block b hb⟩) HXE.out
          have hsz6 : w.heap.size ≤ W6.heap.size := by omega
          clear hown5 z6 hW6
          go_wp2_with (at_builtin; refine wpList_append_own_at _ rfl _ _ 22 rfl w.heap.size 92 t0 (.agg #[.string ⟨#[]⟩, .slice none 0 0]) 2 40 Tryz.underlying22 hi hz0 hz1 hz2 rfl (by decide) _ _ _ rfl hown6 ⟨w5.heap.size, 0, none⟩ 1 1 [.string y.1, .slice ps y.2.length cs] rfl rfl ?c1 ?c2 ?c3 ?c4 ?c5 ?_)
          case c1 =>
           intro i u hj
           rw [Go.WideShapes.add_plain, Nat.zero_add, m6 i]
           simpa using hj
          case c2 => intro u hu; simp at hu; first | (subst hu; rfl) | (rcases hu with hu | hu <;> subst hu <;> rfl) | (rcases hu with hu | hu | hu <;> subst hu <;> rfl) | (rcases hu with hu | hu | hu | hu | hu | hu | hu <;> subst hu <;> rfl)
          case c3 => unfold maxLen; omega
          case c4 => omega
          case c5 => exact hsz6
          · intro v7 w7 hown7 hg7 _ hb7
            have HN : Hid (LI pol 2 92 w w7 B T E tv dp ns v7 (xs ++ [y]) k2) := HL6.out.push HST.out HB.out HT.out HTAB.out HROW6.out HXE6.out rfl HSZ.out HOW4.out hown7 hg7 hb7
            clear hown7 hg7 hb7 hown6 m6
            go_wp2_with (fail)
            go_roundg f
            case measure => omega
            case rel => exact ⟨xs ++ [y], k2, _, _, rfl, rfl, ⟨by have := HF.out; have := HLT.out; omega, by have := HF.out; simp; omega⟩, HNX.out, HN.out⟩
theorem listEx_calls (gb : Nat) {w : World} {B : Nat} {T : List Tok} {E : Int} {tv : Value} {k0 dp ns : Nat} (h : Rdr w B T E tv k0 dp ns) (one : Nat → Rs Ex) (most : Nat) (sign : Txt) (hm0 : 0 < most) (hm : most ≤ 200)
 (hone : ∀ (W : World) (k : Nat), Aside1 B w W → Rdr W B T E tv k dp ns → Calls Tryz.prog 287 #[.pointer (some ⟨gb, 0, none⟩)] W (Does W B T E tv dp ns ExIs (one k))) :
 Calls Tryz.prog 286 #[.pointer (some ⟨B, 0, none⟩), .int .i64 most, .string sign, .func (.func 287) #[] #[.pointer (some ⟨gb, 0, none⟩)]] w (Does w B T E tv dp ns (fun W l v => SliceOf exE 7 W l v) (listP T E one most sign k0)) := by
 obtain ⟨t0, hi, hz0, hz1, hz2⟩ := info_parts Tryz.info_exprP
 have eg : ∀ args w, (callFunc 287 args).run Tryz.prog w = .ok (.enter 287 args) w := enters_at Tryz.func287 (by kernel_rfl) rfl
 have HB : Hid (B < w.heap.size) := h.lt
 have HT := Hd h.toks
 have HTAB := Hd h.tab
 have HONE := Hd hone
 have hst : Stays exE := exE_stays
 have HST := Hd hst
 have h1 := hone w k0 (Aside1.refl _ _) h
 have HP : Hid (listP T E one most sign k0 = (one k0).bind fun x k' => listGo T E one most sign most [x] k') := rfl
 clear hone h hst
 cases hr : one k0 with
 | bad c a =>
   rw [hr] at h1 HP
   have H1 := Hd h1
   clear h1 hr
   go_enter Tryz.func286, Tryz.ntmps286
   go_wp2_with (fail)
   refine H1.out.mono ?_
   rintro e w1 ⟨ha, rfl, hlf⟩
   have HA := Hd ha
   have HLF := Hd hlf
   clear hlf
   clear ha
   go_wp2_with (fail)
   rw [HP.out]
   exact ⟨rfl, HA.out, rfl, HLF.out⟩
 | ok x k1 =>
   rw [hr] at h1 HP
   have H1 := Hd h1
   clear h1 hr
   go_enter Tryz.func286, Tryz.ntmps286
   go_wp2_with (fail)
   refine H1.out.mono ?_
   rintro e w1 ⟨ha, v1, rfl, hr1, hx⟩
   obtain ⟨vl, va, rfl, hvl, hva⟩ := hx
   have hxe := (show ExIs (since w.heap.size w1) x _ from ⟨vl, va, rfl, hvl, hva⟩).row
   obtain ⟨_, _, e9, hxe⟩ := hxe
   simp only [Value.agg.injEq] at e9
   obtain ⟨rfl, rfl⟩ : _ = vl ∧ _ = va := by simp at e9; exact ⟨e9.1.symm, e9.2.symm⟩
   obtain ⟨pl, cl, rfl, _⟩ := hvl
   obtain ⟨pa, ca, rfl, _⟩ := hva
   have HXE := Hd hxe
   clear hxe e9
   have HL := Hd (LI.first (ks := 7) (et := 26) HST.out hr1 ha HXE.out rfl (by decide))
   obtain ⟨W2, eW⟩ : ∃ W2, w1.alloc (.cells #[.int .i64 x.kind, .int .i64 x.at_, .int .i64 x.num, .int .i64 x.ty, .string x.name, .slice pl x.lab.length cl, .slice pa x.kids.length ca] 26) = W2 := ⟨_, rfl⟩
   have HL2 : Hid (LI exE 7 26 w W2 B T E tv dp ns (.slice (some ⟨w1.heap.size, 0, none⟩) 1 1) [x] k1) := by rw [← eW]; exact HL.out
   clear ha hr1 HL
   go_wp2_with (fail)
   go_loopg [9] most (fun f lv ws => ∃ (xs : List Ex) (k : Nat) (wo : World) (vv : Value), vv = lv ∧ wo = ws ∧ Hid (0 < f ∧ xs.length + f = most + 1) ∧ Hid (listP T E one most sign k0 = listGo T E one most sign f xs k) ∧ Hid (LI exE 7 26 w wo B T E tv dp ns vv xs k))
   case atStart => exact ⟨[x], k1, _, _, rfl, rfl, ⟨hm0, by simp; omega⟩, HP.out, HL2.out⟩
   case round =>
    clear HL2 H1 HP HXE
    obtain ⟨xs, k, wo, vv, rfl, rfl, HF, HG, HLI⟩ := hrel
    obtain ⟨p9, c9, rfl⟩ := HLI.out.slice
    obtain ⟨f, rfl⟩ : ∃ f, gk = f + 1 := ⟨gk - 1, by have := HF.out; omega⟩
    have HIS := Hd (is_calls HLI.out.rdr sign)
    cases hs : tkIs T k sign with
    | false =>
      rw [hs] at HIS
      have HE : Hid (listP T E one most sign k0 = .ok xs k) := by
       unfold Hid; rw [HG.out]; unfold listGo; rw [if_neg (by simp [hs])]
      clear hs
      go_wp2_with (fail)
      refine HIS.out.mono ?_
      rintro e w3 ⟨rfl, hb3⟩
      have HL3 := Hd (HLI.out.below HST.out HB.out hb3)
      clear hb3
      go_wp2_with (fail)
      go_ret
      rw [HE.out]
      exact ⟨HL3.out.aside, _, rfl, HL3.out.rdr, HL3.out.done HST.out⟩
    | true =>
      rw [hs] at HIS
      have HGO : Hid (listGo T E one most sign (f + 1) xs k = if xs.length = most then failP T E 2 k else (one (k + 1)).bind fun y k' => listGo T E one most sign f (xs ++ [y]) k') := by
       unfold Hid; rw [listGo, if_pos hs]
      have HMU : Hid (mustP T E sign k = .ok () (k + 1)) := by unfold Hid mustP; rw [if_pos hs]
      clear hs
      by_cases hml : xs.length = most
      · have HE : Hid (listP T E one most sign k0 = failP T E 2 k) := by unfold Hid; rw [HG.out, HGO.out, if_pos hml]
        have hml' : (xs.length : Int) = (most : Int) := by omega
        clear hml
        go_wp2_with (fail)
        refine HIS.out.mono ?_
        rintro e w3 ⟨rfl, hb3⟩
        have HL3 := Hd (HLI.out.below HST.out HB.out hb3)
        have HFA := Hd (fail_calls HL3.out.rdr 2)
        clear hb3
        go_wp2_with (fail)
        refine HFA.out.mono ?_
        rintro e w4 ⟨rfl, hb4⟩
        have HA4 := Hd (HL3.out.aside.trans (aside_below hb4))
        have HLF := Hd (HL3.out.rdr.below hb4).left
        clear hb4
        go_wp2_with (fail)
        rw [HE.out]
        exact ⟨rfl, HA4.out, rfl, HLF.out⟩
      · have HNX : Hid (listP T E one most sign k0 = (one (k + 1)).bind fun y k' => listGo T E one most sign f (xs ++ [y]) k') := by unfold Hid; rw [HG.out, HGO.out, if_neg hml]
        have hml' : ¬ (xs.length : Int) = (most : Int) := by omega
        have HLT : Hid (xs.length < most) := by have := HF.out; unfold Hid; omega
        clear hml
        go_wp2_with (fail)
        refine HIS.out.mono ?_
        rintro e w3 ⟨rfl, hb3⟩
        have HL3 := Hd (HLI.out.below HST.out HB.out hb3)
        have HMC := Hd (must_calls HL3.out.rdr sign)
        rw [HMU.out] at HMC
        clear hb3
        go_wp2_with (fail)
        refine HMC.out.mono ?_
        rintro e w4 ⟨ha4, v4, rfl, hr4, rfl⟩
        have HL4 := Hd (HL3.out.step HST.out HB.out ha4 hr4)
        have hcall := HONE.out w4 (k + 1) HL4.out.aside hr4
        clear ha4 hr4
        cases hry : one (k + 1) with
        | bad c a =>
          rw [hry] at hcall HNX
          have HCA := Hd hcall
          clear hcall hry
          go_wp2_with (fail)
          refine HCA.out.mono ?_
          rintro e w5 ⟨ha5, rfl, hlf⟩
          have HLF := Hd hlf
          clear hlf
          have HA5 := Hd (HL4.out.aside.trans ha5)
          clear ha5
          go_wp2_with (fail)
          rw [HNX.out]
          exact ⟨rfl, HA5.out, rfl, HLF.out⟩
        | ok y k2 =>
          rw [hry] at hcall HNX
          have HCA := Hd hcall
          clear hcall hry
          go_wp2_with (fail)
          refine HCA.out.mono ?_
          rintro e w5 ⟨ha5, v5, rfl, hr5, hx⟩
          obtain ⟨vl, va, rfl, hvl, hva⟩ := hx
          have hxe := (show ExIs (since w4.heap.size w5) y _ from ⟨vl, va, rfl, hvl, hva⟩).row
          obtain ⟨_, _, e9, hxe⟩ := hxe
          obtain ⟨rfl, rfl⟩ : _ = vl ∧ _ = va := by simp at e9; exact ⟨e9.1.symm, e9.2.symm⟩
          obtain ⟨pm, cm, rfl, _⟩ := hvl
          obtain ⟨pn, cn, rfl, _⟩ := hva
          have HXE := Hd hxe
          clear hxe e9
          have HL5 := Hd (HL4.out.step HST.out HB.out ha5 hr5)
          have HSZ : Hid (w.heap.size ≤ w4.heap.size) := HL4.out.aside.size
          have HOW4 : Hid (∀ g, (Value.slice p9 xs.length c9).ownBlock = some g → w.heap.size ≤ g ∧ g < w4.heap.size) := fun g hg => by
           obtain ⟨vals, q1, _⟩ := HL4.out.own
           exact q1.lt g hg
          obtain ⟨vals, hown5, hrows5⟩ := HL5.out.own
          have HROWS := Hd hrows5
          have hsz5 := HL5.out.aside.size
          have hlm := HLT.out
          clear ha5 hr5 hrows5
          obtain ⟨W6, eW6⟩ : ∃ W6, w5.alloc (.cells #[.int .i64 y.kind, .int .i64 y.at_, .int .i64 y.num, .int .i64 y.ty, .string y.name, .slice pm y.lab.length cm, .slice pn y.kids.length cn] 26) = W6 := ⟨_, rfl⟩
          obtain ⟨z6, hW6, m6⟩ := boxes1 eW6
          have hown6 : W6.ownsRow w.heap.size 26 7 (.slice p9 xs.length c9) xs.length vals := own_below hown5 hW6
          have HL6 := Hd (HL5.out.below HST.out HB.out hW6)
          have HROW6 : Hid (Rows exE 7 (hide (inList w.heap.size (.slice p9 xs.length c9)) W6) xs vals) := Rows.stays HST.out (keeps_hide hW6.size fun b hb hp => ⟨hp, hW6.block b hb⟩) HROWS.out
          have HXE6 : Hid (exE (since w4.heap.size W6) y [.int .i64 y.kind, .int .i64 y.at_, .int .i64 y.num, .int .i64 y.ty, .string y.name, .slice pm y.lab.length cm, .slice pn y.kids.length cn]) := HST.out _ _ _ _ (keeps_hide hW6.size fun b hb hp => ⟨hp, hW6.block b hb⟩) HXE.out
          have hsz6 : w.heap.size ≤ W6.heap.size := by omega
          clear hown5 z6 hW6
          go_wp2_with (at_builtin; refine wpList_append_own_at _ rfl _ _ 24 rfl w.heap.size 26 t0 (.agg #[.int .i64 0, .int .i64 0, .int .i64 0, .int .i64 0, .string ⟨#[]⟩, .slice none 0 0, .slice none 0 0]) 7 96 Tryz.underlying24 hi hz0 hz1 hz2 rfl (by decide) _ _ _ rfl hown6 ⟨w5.heap.size, 0, none⟩ 1 1 [.int .i64 y.kind, .int .i64 y.at_, .int .i64 y.num, .int .i64 y.ty, .string y.name, .slice pm y.lab.length cm, .slice pn y.kids.length cn] rfl rfl ?c1 ?c2 ?c3 ?c4 ?c5 ?_)
          case c1 =>
           intro i u hj
           rw [Go.WideShapes.add_plain, Nat.zero_add, m6 i]
           simpa using hj
          case c2 => intro u hu; simp at hu; first | (subst hu; rfl) | (rcases hu with hu | hu <;> subst hu <;> rfl) | (rcases hu with hu | hu | hu <;> subst hu <;> rfl) | (rcases hu with hu | hu | hu | hu | hu | hu | hu <;> subst hu <;> rfl)
          case c3 => unfold maxLen; omega
          case c4 => omega
          case c5 => exact hsz6
          · intro v7 w7 hown7 hg7 _ hb7
            have HN : Hid (LI exE 7 26 w w7 B T E tv dp ns v7 (xs ++ [y]) k2) := HL6.out.push HST.out HB.out HT.out HTAB.out HROW6.out HXE6.out rfl HSZ.out HOW4.out hown7 hg7 hb7
            clear hown7 hg7 hb7 hown6 m6
            go_wp2_with (fail)
            go_roundg f
            case measure => omega
            case rel => exact ⟨xs ++ [y], k2, _, _, rfl, rfl, ⟨by have := HF.out; have := HLT.out; omega, by have := HF.out; simp; omega⟩, HNX.out, HN.out⟩
end
section
open Go.RowKit
theorem bind_ok {α β : Type} {r : Rs α} {f : α → Nat → Rs β} {y : β} {k : Nat} (h : r.bind f = .ok y k) : ∃ x k', r = .ok x k' ∧ f x k' = .ok y k := by
 cases r with
 | ok x k' => exact ⟨x, k', rfl, h⟩
 | bad c a => cases h
def Mono {α : Type} (p : Nat → Rs α) : Prop := ∀ k x k', p k = .ok x k' → k ≤ k'
section
variable {T : List Tok} {E : Int}
theorem mustP_ok {s : Txt} {k k' : Nat} {u : Unit} (h : mustP T E s k = .ok u k') : tkIs T k s = true ∧ k' = k + 1 := by
 unfold mustP at h
 split at h
 · rename_i h1
   cases h
   exact ⟨h1, rfl⟩
 · cases h
theorem nameP_ok {k k' : Nat} {x : Txt} (h : nameP T E k = .ok x k') : (tkNext T k).1 = 1 ∧ x = (tkNext T k).2.2 ∧ k' = k + 1 := by
 unfold nameP at h
 split at h
 · rename_i h1
   cases h
   exact ⟨h1, rfl, rfl⟩
 · cases h
theorem nameP_mono : Mono (nameP T E) := fun k x k' h => by
 have := (nameP_ok h).2.2
 omega
theorem listGo_mono {α : Type} {one : Nat → Rs α} (h1 : Mono one) (most : Nat) (sign : Txt) (f : Nat) : ∀ (l : List α) (k : Nat) (x : List α) (k' : Nat), listGo T E one most sign f l k = .ok x k' → k ≤ k' := by
 induction f with
 | zero => intro l k x k' h; cases h; exact Nat.le_refl _
 | succ f ih =>
   intro l k x k' h
   unfold listGo at h
   split at h
   · split at h
     · cases h
     · obtain ⟨y, k2, e1, e2⟩ := bind_ok h
       have := h1 _ _ _ e1
       have := ih _ _ _ _ e2
       omega
   · cases h; exact Nat.le_refl _
theorem listP_mono {α : Type} {one : Nat → Rs α} (h1 : Mono one) (most : Nat) (sign : Txt) : Mono (listP T E one most sign) := fun k x k' h => by
 obtain ⟨y, k2, e1, e2⟩ := bind_ok h
 have := h1 _ _ _ e1
 have := listGo_mono h1 _ _ _ _ _ _ _ e2
 omega
theorem polP_mono : Mono (polP T E) := fun k x k' h => by
 obtain ⟨o, k1, e1, h⟩ := bind_ok h
 obtain ⟨u, k2, e2, h⟩ := bind_ok h
 have := nameP_mono _ _ _ e1
 have := (mustP_ok e2).2
 split at h
 · obtain ⟨rs, k3, e3, h⟩ := bind_ok h
   have := listP_mono nameP_mono _ _ _ _ _ e3
   cases h
   omega
 · cases h
   omega
theorem labelP_mono : Mono (labelP T E) := fun k x k' h => by
 obtain ⟨u, k1, e1, h⟩ := bind_ok h
 have := (mustP_ok e1).2
 split at h
 · cases h
   omega
 · obtain ⟨l, k2, e2, h⟩ := bind_ok h
   obtain ⟨u3, k3, e3, h⟩ := bind_ok h
   have := listP_mono polP_mono _ _ _ _ _ e2
   have := (mustP_ok e3).2
   cases h
   omega
theorem opLoop_mono {one : Nat → Rs Ex} (h1 : Mono one) (level : Int) (f : Nat) : ∀ (x : Ex) (k : Nat) (y : Ex) (k' : Nat), opLoop T one level f x k = .ok y k' → k ≤ k' := by
 induction f with
 | zero => intro x k y k' h; cases h; exact Nat.le_refl _
 | succ f ih =>
   intro x k y k' h
   unfold opLoop at h
   split at h
   · cases h; exact Nat.le_refl _
   · obtain ⟨z, k2, e1, e2⟩ := bind_ok h
     have := h1 _ _ _ e1
     have := ih _ _ _ _ e2
     omega
theorem exprL_mono {prim : Nat → Rs Ex} (h1 : Mono prim) (j : Nat) : Mono (exprL T prim j) := by
 induction j with
 | zero => exact h1
 | succ j ih =>
   intro k x k' h
   obtain ⟨y, k2, e1, e2⟩ := bind_ok h
   have := ih _ _ _ e1
   have := opLoop_mono ih _ _ _ _ _ _ e2
   omega
theorem argsP_mono {prim : Nat → Rs Ex} (h1 : Mono prim) : Mono (argsP T E prim) := fun k x k' h => by
 obtain ⟨u, k1, e1, h⟩ := bind_ok h
 have := (mustP_ok e1).2
 split at h
 · cases h
   omega
 · obtain ⟨l, k2, e2, h⟩ := bind_ok h
   obtain ⟨u3, k3, e3, h⟩ := bind_ok h
   have := listP_mono (exprL_mono h1 5) _ _ _ _ _ e2
   have := (mustP_ok e3).2
   cases h
   omega
theorem primP_mono (d : Nat) : Mono (primP T E d) := by
 induction d with
 | zero => intro k x k' h; cases h
 | succ d ih =>
   intro k x k' h
   unfold primP at h
   split at h
   · cases h; omega
   split at h
   · cases h; omega
   split at h
   · cases h; omega
   split at h
   · split at h
     · obtain ⟨l, k1, e1, h⟩ := bind_ok h
       have := argsP_mono ih _ _ _ e1
       cases h
       omega
     · cases h; omega
   split at h
   · obtain ⟨l, k1, e1, h⟩ := bind_ok h
     have := ih _ _ _ e1
     cases h
     omega
   split at h
   · obtain ⟨l, k1, e1, h⟩ := bind_ok h
     obtain ⟨u, k2, e2, h⟩ := bind_ok h
     have := exprL_mono ih 5 _ _ _ e1
     have := (mustP_ok e2).2
     cases h
     omega
   split at h
   · obtain ⟨u1, k1, e1, h⟩ := bind_ok h
     obtain ⟨x2, k2, e2, h⟩ := bind_ok h
     obtain ⟨u3, k3, e3, h⟩ := bind_ok h
     obtain ⟨l4, k4, e4, h⟩ := bind_ok h
     obtain ⟨u5, k5, e5, h⟩ := bind_ok h
     have := (mustP_ok e1).2
     have := exprL_mono ih 5 _ _ _ e2
     have := (mustP_ok e3).2
     have := labelP_mono _ _ _ e4
     have := (mustP_ok e5).2
     cases h
     omega
   · cases h
end
end
section
open Go.RowKit Go.Maps
theorem since_set {n b : Nat} (w : World) (o : Nat) (v : Value) (hb : b < n) : Keeps (since n w) (since n (w.setCell ⟨b, o, none⟩ v)) :=
 keeps_hide (by simp [World.setCell]) fun i hi hp => ⟨hp, Below.heap_setCell _ _ _ _ (by simp at hp ⊢; omega)⟩
section
variable {w w' w'' : World} {B : Nat} {T : List Tok} {E : Int} {tv : Value} {k dp ns k0 dp0 ns0 : Nat}
theorem Rdr.via (h0 : Rdr w B T E tv k0 dp0 ns0) (ha : Aside1 B w w'') (hb : w''.heap[B]? = w'.heap[B]?) (h' : Rdr w' B T E tv k dp ns) : Rdr w'' B T E tv k dp ns := ⟨by rw [hb]; exact h'.blk, h0.toks.stays ha.keeps, h0.tab.aside ha⟩
theorem aside_new (ha : Aside1 B w w') {b : Nat} (hb : w.heap.size ≤ b) (o : Nat) (v : Value) : Aside1 B w (w'.setCell ⟨b, o, none⟩ v) :=
 ⟨ha.os, ha.tape, ha.output, by have := ha.size; simp [World.setCell]; omega, fun i hi hne => (Below.heap_setCell _ _ _ _ (by simp; omega)).trans (ha.block i hi hne)⟩
theorem aside_alloc (ha : Aside1 B w w') (o : Obj) : Aside1 B w (w'.alloc o) := ha.trans (aside_below ((Below.refl _ _).alloc (Nat.le_refl _) o))
def Blk (w : World) (b : Nat) (cs : List Value) (t : TypeId) : Prop := w.heap[b]? = some (.cells cs.toArray t (0, 0))
variable {b : Nat} {cs : List Value} {t : TypeId}
theorem Blk.lt (h : Blk w b cs t) : b < w.heap.size := (Array.getElem?_eq_some_iff.1 h).1
theorem Blk.new (w : World) (cs : List Value) (t : TypeId) : Blk (w.alloc (.cells cs.toArray t)) w.heap.size cs t := heap_alloc_new _ _
theorem Blk.aside (h : Blk w b cs t) (ha : Aside1 B w w') (hne : b ≠ B) : Blk w' b cs t := (ha.block b h.lt (fun e => hne (by simpa using e))).trans h
theorem Blk.below (h : Blk w b cs t) (ha : Below w.heap.size w w') : Blk w' b cs t := (ha.block b h.lt).trans h
theorem Blk.cell (h : Blk w b cs t) (i : Nat) : w.cell? ⟨b, i, none⟩ = cs[i]? := by
 unfold Blk at h
 simp [World.cell?, h]
theorem Blk.fz (h : Blk w b cs t) (i : Nat) : w.frozen? ⟨b, i, none⟩ = false := by
 unfold Blk at h
 simp [World.frozen?, h]
theorem Blk.set (h : Blk w b cs t) (i : Nat) (v : Value) : Blk (w.setCell ⟨b, i, none⟩ v) b (cs.set i v) t := by
 unfold Blk at h ⊢
 simp [World.setCell, Array.getElem?_modify, h, Array.setIfInBounds]
 intro hi
 rw [List.set_eq_of_length_le hi]
theorem Blk.other (h : Blk w b cs t) {b' : Nat} (hne : b ≠ b') (i : Nat) (v : Value) : Blk (w.setCell ⟨b', i, none⟩ v) b cs t := (Below.heap_setCell _ _ _ _ (by simpa using hne)).trans h
theorem Blk.same (h : Blk w b cs t) {i : Nat} {v : Value} (hv : cs[i]? = some v) : w.setCell ⟨b, i, none⟩ v = w := by
 have h2 := h.set i v
 have e : cs.set i v = cs := by
  apply List.ext_getElem?
  intro j
  rw [List.getElem?_set]
  split
  · rename_i e
    subst e
    split
    · exact hv.symm
    · rename_i hi
      rw [List.getElem?_eq_none (by omega)]
  · rfl
 rw [e] at h2
 unfold Blk at h h2
 have hh : (w.setCell ⟨b, i, none⟩ v).heap = w.heap := by
  apply Array.ext_getElem?
  intro j
  by_cases hj : j = b
  · subst hj
    rw [h2, h]
  · exact Below.heap_setCell _ _ _ _ (by simpa using hj)
 unfold World.setCell at hh ⊢
 cases w
 simp_all
end
section
variable {w : World} {B : Nat} {T : List Tok} {E : Int} {tv : Value} {k dp ns : Nat}
theorem pol_calls (h : Rdr w B T E tv k dp ns) {gb : Nat} (hg : w.cell? ⟨gb, 0, none⟩ = some (.pointer (some ⟨B, 0, none⟩))) (hne : gb ≠ B) :
 Calls Tryz.prog 162 #[.pointer (some ⟨gb, 0, none⟩)] w (Does w B T E tv dp ns PolIs (polP T E k)) := by
 have hmf := mf_run
 have hfd : ∀ (a b : Int) (c : Txt) (w : World), (Instr.field 183 (.agg #[.int .i64 a, .int .i64 b, .string c]) 0).run Tryz.prog w = .ok (.int .i64 a) w := fun _ _ _ _ => rfl
 have H0 := Hd h
 have HGL : Hid (gb < w.heap.size) := cell_lt hg
 have HG : Hid (∀ W, Aside1 B w W → W.cell? ⟨gb, 0, none⟩ = some (.pointer (some ⟨B, 0, none⟩))) := fun W ha => ha.cell hne hg
 have HP : Hid (polP T E k = (nameP T E k).bind fun o k1 => (mustP T E tColon k1).bind fun _ k2 =>
  if (tkNext T k2).1 = 1 then (listP T E (nameP T E) 6 tComma k2).bind fun rs k3 => .ok (o, rs) k3 else .ok (o, []) k2) := rfl
 obtain ⟨W1, eW⟩ : ∃ W1, w.alloc (.cells #[.string ⟨#[]⟩, .slice none 0 0] 92) = W1 := ⟨_, rfl⟩
 have hn1 : W1.heap.size = w.heap.size + 1 := by rw [← eW]; simp
 have HB1 : Hid (Blk W1 w.heap.size [.string ⟨#[]⟩, .slice none 0 0] 92) := by rw [← eW]; exact Blk.new _ _ _
 have hA1 : Aside1 B w W1 := by rw [← eW]; exact aside_alloc (Aside1.refl _ _) _
 have HA1 := Hd hA1
 have HBN : Hid (w.heap.size ≠ B) := by have := h.lt; unfold Hid; omega
 have HN1 := Hd hn1
 have g1 := HG.out W1 hA1
 have h1 := nameP_calls (h.via hA1 (by rw [← eW]; exact ((Below.refl w.heap.size w).alloc (Nat.le_refl _) _).block B h.lt) h)
 clear hg hne h hA1 hn1
 cases hr : nameP T E k with
 | bad c a =>
   rw [hr] at h1 HP
   have H1 := Hd h1
   clear h1 hr
   go_enter Tryz.func162, Tryz.ntmps162
   go_wp2_with (fail)
   refine H1.out.mono ?_
   rintro e w2 ⟨ha, rfl, hlf⟩
   have HA := Hd (HA1.out.trans ha)
   have HLF := Hd hlf
   clear hlf ha
   go_wp2_with (fail)
   rw [HP.out]
   exact ⟨rfl, HA.out, rfl, HLF.out⟩
 | ok o k1 =>
   rw [hr] at h1 HP
   have H1 := Hd h1
   clear h1 hr
   go_enter Tryz.func162, Tryz.ntmps162
   go_wp2_with (fail)
   refine H1.out.mono ?_
   rintro e w2 ⟨ha, v2, rfl, hr2, rfl⟩
   obtain ⟨W3, eW3⟩ : ∃ W3, w2.alloc (.cells #[.string o, .slice none 0 0] 92) = W3 := ⟨_, rfl⟩
   have hA2 := HA1.out.trans ha
   have hb3 : Below w2.heap.size w2 W3 := by rw [← eW3]; exact (Below.refl _ _).alloc (Nat.le_refl _) _
   have hA3 := hA2.trans (aside_below hb3)
   have HA3 := Hd hA3
   have HN2 : Hid (w.heap.size < w2.heap.size) := by have h1 := ha.size; have h2 := HN1.out; unfold Hid; omega
   have HB3 : Hid (Blk W3 w.heap.size [.string ⟨#[]⟩, .slice none 0 0] 92) := ((HB1.out.aside ha HBN.out).below hb3)
   have HC3 : Hid (Blk W3 w2.heap.size [.string o, .slice none 0 0] 92) := by rw [← eW3]; exact Blk.new _ _ _
   have HBN2 : Hid (w2.heap.size ≠ B) := by have h1 := hr2.lt; unfold Hid; omega
   have HN3 : Hid (w2.heap.size < W3.heap.size) := by rw [← eW3]; unfold Hid; simp
   have hr3 := hr2.below hb3
   have h3 := must_calls hr3 tColon
   have g3 := HG.out W3 hA3
   have c31 := HC3.out.cell 1
   simp only [List.getElem?_cons_zero, List.getElem?_cons_succ] at c31
   have f31 := HC3.out.fz 1
   have eS3 := HC3.out.same (i := 1) (v := .slice none 0 0) rfl
   clear ha hr2 hb3 hA2 hA3 hr3 H1
   cases hm : mustP T E tColon k1 with
   | bad c a =>
     rw [hm] at h3
     have HPE : Hid (polP T E k = .bad c a) := by unfold Hid; rw [HP.out]; show (mustP T E tColon k1).bind _ = _; rw [hm]; rfl
     unfold tColon at h3
     have H3 := Hd h3
     clear h3 hm
     go_wp2_with (fail)
     refine H3.out.mono ?_
     rintro e w4 ⟨ha, rfl, hlf⟩
     have HA := Hd (HA3.out.trans ha)
     have HLF := Hd hlf
     clear hlf ha
     go_wp2_with (fail)
     rw [HPE.out]
     exact ⟨rfl, HA.out, rfl, HLF.out⟩
   | ok u k2 =>
     rw [hm] at h3
     have HPE : Hid (polP T E k = if (tkNext T k2).1 = 1 then (listP T E (nameP T E) 6 tComma k2).bind fun rs k3 => .ok (o, rs) k3 else .ok (o, []) k2) := by unfold Hid; rw [HP.out]; show (mustP T E tColon k1).bind _ = _; rw [hm]; rfl
     unfold tColon at h3
     have H3 := Hd h3
     clear h3 hm
     go_wp2_with (fail)
     refine H3.out.mono ?_
     rintro e w4 ⟨ha, v4, rfl, hr4, rfl⟩
     have HA4 := Hd (HA3.out.trans ha)
     have HR4 := Hd hr4
     have HB4 := Hd (HB3.out.aside ha HBN.out)
     have HC4 := Hd (HC3.out.aside ha HBN2.out)
     have HN4 : Hid (w2.heap.size < w4.heap.size) := by have h1 := ha.size; have h2 := HN3.out; unfold Hid; omega
     have HNX := Hd (next_calls hr4)
     have g4 := HG.out w4 HA4.out
     clear ha hr4 H3 HA3 HB3 HC3 HN3 g1 g3 eW eW3 c31 f31 eS3
     go_wp2_with (fail)
     refine HNX.out.mono ?_
     rintro e w5 ⟨rfl, hb5⟩
     have HA5 := Hd (HA4.out.trans (aside_below hb5))
     have HR5 := Hd (HR4.out.below hb5)
     have HB5 := Hd (HB4.out.below hb5)
     have HC5 := Hd (HC4.out.below hb5)
     have HN5 : Hid (w2.heap.size < w5.heap.size) := by have h1 := hb5.size; have h2 := HN4.out; unfold Hid; omega
     have g5 := HG.out w5 HA5.out
     clear hb5 g4
     by_cases hk : (tkNext T k2).1 = 1
     · rw [if_pos hk] at HPE
       generalize (tkNext T k2).1 = tk at *
       have hkb : (tk == 1) = true := by simp [hk]
       clear hk
       have h6 := listStr_calls 0 HR5.out (nameP T E) 6 tComma (by decide) (by decide) (fun W k _ hr => nameP_calls hr)
       cases hl : listP T E (nameP T E) 6 tComma k2 with
       | bad c a =>
         rw [hl] at h6 HPE
         unfold tComma at h6
         have H6 := Hd h6
         clear h6 hl
         go_wp2_with (fail)
         refine H6.out.mono ?_
         rintro e w6 ⟨ha, rfl, hlf⟩
         have HA := Hd (HA5.out.trans ha)
         have HLF := Hd hlf
         clear hlf ha
         go_wp2_with (fail)
         rw [HPE.out]
         exact ⟨rfl, HA.out, rfl, HLF.out⟩
       | ok rs k3 =>
         rw [hl] at h6 HPE
         unfold tComma at h6
         have H6 := Hd h6
         clear h6 hl
         go_wp2_with (fail)
         refine H6.out.mono ?_
         rintro e w6 ⟨ha, v6, rfl, hr6, hs6⟩
         have hA6 := HA5.out.trans ha
         obtain ⟨W7, eW7⟩ : ∃ W7, w6.setCell ⟨w2.heap.size, 1, none⟩ v6 = W7 := ⟨_, rfl⟩
         have hC6 := HC5.out.aside ha HBN2.out
         have hB6 := HB5.out.aside ha HBN.out
         have c61 := hC6.cell 1
         simp only [List.getElem?_cons_zero, List.getElem?_cons_succ] at c61
         have f61 := hC6.fz 1
         have hC7 : Blk W7 w2.heap.size [.string o, v6] 92 := by rw [← eW7]; exact hC6.set 1 v6
         have hB7 : Blk W7 w.heap.size [.string ⟨#[]⟩, .slice none 0 0] 92 := by rw [← eW7]; exact hB6.other (Nat.ne_of_lt HN2.out) 1 v6
         have hA7 : Aside1 B w W7 := by rw [← eW7]; exact aside_new hA6 (Nat.le_of_lt HN2.out) _ _
         have hR7 : W7.heap[B]? = w6.heap[B]? := by rw [← eW7]; exact Below.heap_setCell _ _ _ _ (by simp; exact fun e => HBN2.out e.symm)
         have hS7 : Strs (since w5.heap.size W7) rs v6 := by
          refine SliceOf.stays (One.stays _) ?_ hs6
          rw [← eW7]
          exact since_set _ _ _ HN5.out
         have HNN : Hid (w.heap.size < w5.heap.size) := by have := HN5.out; have := HN2.out; unfold Hid; omega
         have b70 := hB7.cell 0
         have b71 := hB7.cell 1
         have c70 := hC7.cell 0
         have c71 := hC7.cell 1
         simp only [List.getElem?_cons_zero, List.getElem?_cons_succ] at b70 b71 c70 c71
         have g70 := hB7.fz 0
         have g71 := hB7.fz 1
         have HR6 := Hd hr6
         have HA7 := Hd hA7
         have HR7 := Hd hR7
         have HB7 := Hd hB7
         have HS7 := Hd hS7
         obtain ⟨p6, n6, c6, e6⟩ : ∃ p6 n6 c6, v6 = .slice p6 n6 c6 := by obtain ⟨p, c, e, _⟩ := hs6; exact ⟨_, _, _, e⟩
         subst e6
         clear ha hr6 hs6 hA6 hC6 hB6 hC7 hB7 hA7 hR7 hS7 H6 HNX HR4 HB4 HC4 HA4 g5
         go_wp2_with (fail)
         refine bodyPost_ret (v := .agg #[.string o, .slice p6 n6 c6]) ?_ rfl ?_
         · have hq := (HB7.out.set 0 (.string o)).set 1 (.slice p6 n6 c6)
           have q0 := hq.cell 0
           have q1 := hq.cell 1
           simp only [List.set_cons_zero, List.set_cons_succ, List.getElem?_cons_zero, List.getElem?_cons_succ] at q0 q1
           simp [results, Tryz.results162, go_sem, q0, q1]
         · rw [HPE.out]
           have hA9 := aside_new (aside_new HA7.out (Nat.le_refl w.heap.size) 0 (.string o)) (Nat.le_refl w.heap.size) 1 (.slice p6 n6 c6)
           refine ⟨hA9, _, rfl, H0.out.via hA9 ?_ HR6.out, _, rfl, HS7.out.stays (((since_set _ _ _ HNN.out).trans (since_set _ _ _ HNN.out)).trans (since_mono _ (Nat.le_of_lt HNN.out)))⟩
           rw [← HR7.out]
           exact (Below.heap_setCell _ _ _ _ (by simp; exact fun e => HBN.out e.symm)).trans (Below.heap_setCell _ _ _ _ (by simp; exact fun e => HBN.out e.symm))
     · rw [if_neg hk] at HPE
       generalize (tkNext T k2).1 = tk at *
       have hkb : (tk == 1) = false := by simp [hk]
       have b70 := HB5.out.cell 0
       have b71 := HB5.out.cell 1
       have c70 := HC5.out.cell 0
       have c71 := HC5.out.cell 1
       simp only [List.getElem?_cons_zero, List.getElem?_cons_succ] at b70 b71 c70 c71
       have g70 := HB5.out.fz 0
       have g71 := HB5.out.fz 1
       clear hk g5
       go_wp2_with (fail)
       refine bodyPost_ret (v := .agg #[.string o, .slice none 0 0]) ?_ rfl ?_
       · have hq := (HB5.out.set 0 (.string o)).set 1 (.slice none 0 0)
         have q0 := hq.cell 0
         have q1 := hq.cell 1
         simp only [List.set_cons_zero, List.set_cons_succ, List.getElem?_cons_zero, List.getElem?_cons_succ] at q0 q1
         simp [results, Tryz.results162, go_sem, q0, q1]
       · rw [HPE.out]
         have hA9 := aside_new (aside_new HA5.out (Nat.le_refl w.heap.size) 0 (.string o)) (Nat.le_refl w.heap.size) 1 (.slice none 0 0)
         refine ⟨hA9, _, rfl, H0.out.via hA9 ?_ HR5.out, _, rfl, ⟨none, 0, rfl, Nat.le_refl _, by unfold maxLen; decide, .inl rfl⟩⟩
         exact (Below.heap_setCell _ _ _ _ (by simp; exact fun e => HBN.out e.symm)).trans (Below.heap_setCell _ _ _ _ (by simp; exact fun e => HBN.out e.symm))
theorem label_calls (h : Rdr w B T E tv k dp ns) : Calls Tryz.prog 63 #[.pointer (some ⟨B, 0, none⟩)] w (Does w B T E tv dp ns (fun W l v => SliceOf pol 2 W l v) (labelP T E k)) := by
 have hmf := mf_run
 have HP : Hid (labelP T E k = (mustP T E tOpen k).bind fun _ k1 =>
  if tkIs T k1 tShut then .ok [] (k1 + 1) else (listP T E (polP T E) 200 tSemi k1).bind fun l k2 => (mustP T E tShut k2).bind fun _ k3 => .ok l k3) := rfl
 obtain ⟨W1, eW⟩ : ∃ W1, w.alloc (.cells #[.pointer (some ⟨B, 0, none⟩)] 102) = W1 := ⟨_, rfl⟩
 have hB1 : Blk W1 w.heap.size [.pointer (some ⟨B, 0, none⟩)] 102 := by rw [← eW]; exact Blk.new _ _ _
 have hb1 : Below w.heap.size w W1 := by rw [← eW]; exact (Below.refl _ _).alloc (Nat.le_refl _) _
 have HN : Hid (w.heap.size < W1.heap.size) := hB1.lt
 have HNE : Hid (w.heap.size ≠ B) := by have := h.lt; unfold Hid; omega
 have HG : Hid (∀ W, Aside1 B W1 W → W.cell? ⟨w.heap.size, 0, none⟩ = some (.pointer (some ⟨B, 0, none⟩))) := fun W ha => by
  have := (hB1.aside ha HNE.out).cell 0
  simpa using this
 have HBL : Hid (B < W1.heap.size) := by have := h.lt; have := HN.out; unfold Hid; omega
 have HA1 := Hd (aside_below (B := B) hb1)
 have HR1 := Hd (h.below hb1)
 have g1 := HG.out W1 (Aside1.refl _ _)
 have h1 := must_calls HR1.out tOpen
 have HX : Hid (∀ W (l : List Pol) v, SliceOf pol 2 (since W1.heap.size W) l v → SliceOf pol 2 (since w.heap.size W) l v) := fun W l v q => SliceOf.stays pol_stays (since_mono _ (Nat.le_of_lt HN.out)) q
 clear hB1 hb1 h
 cases hm : mustP T E tOpen k with
 | bad c a =>
   rw [hm] at h1
   have HPE : Hid (labelP T E k = .bad c a) := by unfold Hid; rw [HP.out, hm]; rfl
   unfold tOpen at h1
   have H1 := Hd h1
   clear h1 hm
   go_enter Tryz.func63, Tryz.ntmps63
   go_wp2_with (fail)
   refine H1.out.mono ?_
   rintro e w2 ⟨ha, rfl, hlf⟩
   have HA := Hd (HA1.out.trans ha)
   have HLF := Hd hlf
   clear hlf ha
   go_wp2_with (fail)
   rw [HPE.out]
   exact ⟨rfl, HA.out, rfl, HLF.out⟩
 | ok u k1 =>
   rw [hm] at h1
   have HPE : Hid (labelP T E k = if tkIs T k1 tShut then .ok [] (k1 + 1) else (listP T E (polP T E) 200 tSemi k1).bind fun l k2 => (mustP T E tShut k2).bind fun _ k3 => .ok l k3) := by unfold Hid; rw [HP.out, hm]; rfl
   unfold tOpen at h1
   have H1 := Hd h1
   clear h1 hm HP
   cases hs : tkIs T k1 tShut with
   | true =>
     rw [hs] at HPE
     go_enter Tryz.func63, Tryz.ntmps63
     go_wp2_with (fail)
     refine H1.out.mono ?_
     rintro e w2 ⟨ha, v2, rfl, hr2, rfl⟩
     have HA2 := Hd ha
     have g2 := HG.out w2 ha
     have h2 := eat_yes hr2 tShut hs
     unfold tShut at h2
     have H2 := Hd h2
     clear ha hr2 h2 hs g1 eW H1
     go_wp2_with (fail)
     refine H2.out.mono ?_
     rintro e w3 ⟨rfl, ha, hr3⟩
     have HA3 := Hd (HA1.out.trans (HA2.out.trans ha))
     have HR3 := Hd hr3
     clear ha hr3 g2
     go_wp2_with (fail)
     go_ret
     rw [HPE.out]
     exact ⟨HA3.out, _, rfl, HR3.out, ⟨none, 0, rfl, Nat.le_refl _, by unfold maxLen; decide, .inl rfl⟩⟩
   | false =>
     rw [hs] at HPE
     go_enter Tryz.func63, Tryz.ntmps63
     go_wp2_with (fail)
     refine H1.out.mono ?_
     rintro e w2 ⟨ha, v2, rfl, hr2, rfl⟩
     have HA2 := Hd ha
     have g2 := HG.out w2 ha
     have h2 := eat_no hr2 tShut hs
     unfold tShut at h2
     have H2 := Hd h2
     clear ha hr2 h2 hs g1 eW H1
     go_wp2_with (fail)
     refine H2.out.mono ?_
     rintro e w3 ⟨rfl, ha, hr3⟩
     have HA3 := Hd (HA2.out.trans ha)
     have g3 := HG.out w3 HA3.out
     have h3 := listPol_calls w.heap.size hr3 (polP T E) 200 tSemi (by decide) (by decide) (fun W k ha hr => pol_calls hr (HG.out W (HA3.out.trans ha)) HNE.out)
     have HSZ3 : Hid (W1.heap.size ≤ w3.heap.size) := HA3.out.size
     clear ha hr3 g2 H2 HA2
     cases hl : listP T E (polP T E) 200 tSemi k1 with
     | bad c a =>
       rw [hl] at h3 HPE
       unfold tSemi at h3
       have H3 := Hd h3
       clear h3 hl
       go_wp2_with (fail)
       refine H3.out.mono ?_
       rintro e w4 ⟨ha, rfl, hlf⟩
       have HA := Hd (HA1.out.trans (HA3.out.trans ha))
       have HLF := Hd hlf
       clear hlf ha
       go_wp2_with (fail)
       rw [HPE.out]
       exact ⟨rfl, HA.out, rfl, HLF.out⟩
     | ok l k2 =>
       rw [hl] at h3 HPE
       unfold tSemi at h3
       have H3 := Hd h3
       clear h3 hl
       go_wp2_with (fail)
       refine H3.out.mono ?_
       rintro e w4 ⟨ha, v4, rfl, hr4, hs4⟩
       have HA4 := Hd (HA3.out.trans ha)
       have HS4 : Hid (SliceOf pol 2 (since W1.heap.size w4) l v4) := SliceOf.stays pol_stays (since_mono _ HSZ3.out) hs4
       have g4 := HG.out w4 HA4.out
       have h4 := must_calls hr4 tShut
       obtain ⟨p4, n4, c4, rfl⟩ : ∃ p4 n4 c4, v4 = .slice p4 n4 c4 := by obtain ⟨p, c, e, _⟩ := hs4; exact ⟨_, _, _, e⟩
       clear ha hr4 hs4 g3 H3
       cases hm2 : mustP T E tShut k2 with
       | bad c a =>
         rw [hm2] at h4
         have HPF : Hid (labelP T E k = .bad c a) := by unfold Hid; rw [HPE.out]; show (mustP T E tShut k2).bind _ = _; rw [hm2]; rfl
         unfold tShut at h4
         have H4 := Hd h4
         clear h4 hm2
         go_wp2_with (fail)
         refine H4.out.mono ?_
         rintro e w5 ⟨ha, rfl, hlf⟩
         have HA := Hd (HA1.out.trans (HA4.out.trans ha))
         have HLF := Hd hlf
         clear hlf ha
         go_wp2_with (fail)
         rw [HPF.out]
         exact ⟨rfl, HA.out, rfl, HLF.out⟩
       | ok u5 k3 =>
         rw [hm2] at h4
         have HPF : Hid (labelP T E k = .ok l k3) := by unfold Hid; rw [HPE.out]; show (mustP T E tShut k2).bind _ = _; rw [hm2]; rfl
         unfold tShut at h4
         have H4 := Hd h4
         clear h4 hm2
         go_wp2_with (fail)
         refine H4.out.mono ?_
         rintro e w5 ⟨ha, v5, rfl, hr5, rfl⟩
         have HA := Hd (HA1.out.trans (HA4.out.trans ha))
         have HR5 := Hd hr5
         have HS5 := Hd (SliceOf.stays pol_stays (since_aside ha HBL.out) HS4.out)
         clear ha hr5
         go_wp2_with (fail)
         go_ret
         rw [HPF.out]
         exact ⟨HA.out, _, rfl, HR5.out, HX.out _ _ _ HS5.out⟩
end
end
section
open Go.RowKit Go.Maps
def sev (w : World) (n : Nat) (a b c d e f g : Value) : World := ((((((w.setCell ⟨n, 0, none⟩ a).setCell ⟨n, 1, none⟩ b).setCell ⟨n, 2, none⟩ c).setCell ⟨n, 3, none⟩ d).setCell ⟨n, 4, none⟩ e).setCell ⟨n, 5, none⟩ f).setCell ⟨n, 6, none⟩ g
section
variable {w w0 : World} {n B m : Nat} {t : TypeId} {a b c d e f g a' b' c' d' e' f' g' : Value}
theorem Blk.sev (h : Blk w n [a', b', c', d', e', f', g'] t) : Blk (sev w n a b c d e f g) n [a, b, c, d, e, f, g] t := by
 have := ((((((h.set 0 a).set 1 b).set 2 c).set 3 d).set 4 e).set 5 f).set 6 g
 simpa [Proofs.YtminbehofnnhmaaGreatDoor.sev] using this
theorem Blk.cells7 (h : Blk w n [a', b', c', d', e', f', g'] t) : w.cell? ⟨n, 0, none⟩ = some a' ∧ w.cell? ⟨n, 1, none⟩ = some b' ∧ w.cell? ⟨n, 2, none⟩ = some c' ∧ w.cell? ⟨n, 3, none⟩ = some d' ∧ w.cell? ⟨n, 4, none⟩ = some e' ∧ w.cell? ⟨n, 5, none⟩ = some f' ∧ w.cell? ⟨n, 6, none⟩ = some g' :=
 ⟨h.cell 0, h.cell 1, h.cell 2, h.cell 3, h.cell 4, h.cell 5, h.cell 6⟩
theorem Blk.fz7 (h : Blk w n [a', b', c', d', e', f', g'] t) : w.frozen? ⟨n, 0, none⟩ = false ∧ w.frozen? ⟨n, 1, none⟩ = false ∧ w.frozen? ⟨n, 2, none⟩ = false ∧ w.frozen? ⟨n, 3, none⟩ = false ∧ w.frozen? ⟨n, 4, none⟩ = false ∧ w.frozen? ⟨n, 5, none⟩ = false ∧ w.frozen? ⟨n, 6, none⟩ = false :=
 ⟨h.fz 0, h.fz 1, h.fz 2, h.fz 3, h.fz 4, h.fz 5, h.fz 6⟩
theorem since_sev (hn : n < m) : Keeps (since m w) (since m (sev w n a b c d e f g)) :=
 ((((((since_set _ _ _ hn).trans (since_set _ _ _ hn)).trans (since_set _ _ _ hn)).trans (since_set _ _ _ hn)).trans (since_set _ _ _ hn)).trans (since_set _ _ _ hn)).trans (since_set _ _ _ hn)
theorem aside_sev (ha : Aside1 B w0 w) (hn : w0.heap.size ≤ n) : Aside1 B w0 (sev w n a b c d e f g) :=
 aside_new (aside_new (aside_new (aside_new (aside_new (aside_new (aside_new ha hn _ _) hn _ _) hn _ _) hn _ _) hn _ _) hn _ _) hn _ _
theorem sev_block (hn : n ≠ B) : (sev w n a b c d e f g).heap[B]? = w.heap[B]? := by
 have h : ∀ (W : World) (o : Nat) (v : Value), (W.setCell ⟨n, o, none⟩ v).heap[B]? = W.heap[B]? := fun W o v => Below.heap_setCell _ _ _ _ (fun e => hn (by simpa using e.symm))
 unfold sev
 rw [h, h, h, h, h, h, h]
theorem sev_size : (sev w n a b c d e f g).heap.size = w.heap.size := by simp [sev, World.setCell]
end
def zeroC : List Value := [.int .i64 0, .int .i64 0, .int .i64 0, .int .i64 0, .string ⟨#[]⟩, .slice none 0 0, .slice none 0 0]
def argsQ (T : List Tok) (E : Int) (one : Nat → Rs Ex) (k : Nat) : Rs (List Ex) := (mustP T E tLeft k).bind fun _ k1 =>
 if tkIs T k1 tRight then .ok [] (k1 + 1) else (listP T E one 4 tComma k1).bind fun l k2 => (mustP T E tRight k2).bind fun _ k3 => .ok l k3
def ReadsEx (B : Nat) (T : List Tok) (E : Int) (tv : Value) (dp ns : Nat) (fn : FuncId) (args : Array Value) (p : Nat → Rs Ex) : Prop :=
 ∀ (W : World) (k : Nat), Rdr W B T E tv k dp ns → Calls Tryz.prog fn args W (Does W B T E tv dp ns ExIs (p k))
section
variable {w : World} {B : Nat} {T : List Tok} {E : Int} {tv : Value} {k dp ns : Nat}
theorem args1_calls {p : Nat → Rs Ex} (hx : ReadsEx B T E tv dp ns 69 #[.pointer (some ⟨B, 0, none⟩), .int .i64 1] p) (h : Rdr w B T E tv k dp ns) {gb : Nat} (hg : w.cell? ⟨gb, 0, none⟩ = some (.pointer (some ⟨B, 0, none⟩))) (hne : gb ≠ B) :
 Calls Tryz.prog 287 #[.pointer (some ⟨gb, 0, none⟩)] w (Does w B T E tv dp ns ExIs (p k)) := by
 obtain ⟨W1, eW⟩ : ∃ W1, w.alloc (.cells #[.int .i64 0, .int .i64 0, .int .i64 0, .int .i64 0, .string ⟨#[]⟩, .slice none 0 0, .slice none 0 0] 26) = W1 := ⟨_, rfl⟩
 have hB1 : Blk W1 w.heap.size zeroC 26 := by rw [← eW]; exact Blk.new _ _ _
 have hb1 : Below w.heap.size w W1 := by rw [← eW]; exact (Below.refl _ _).alloc (Nat.le_refl _) _
 have HN : Hid (w.heap.size < W1.heap.size) := hB1.lt
 have HNE : Hid (w.heap.size ≠ B) := by have := h.lt; unfold Hid; omega
 have HB1 := Hd hB1
 have HA1 := Hd (aside_below (B := B) hb1)
 have g1 : W1.cell? ⟨gb, 0, none⟩ = some (.pointer (some ⟨B, 0, none⟩)) := HA1.out.cell hne hg
 have h1 := hx W1 k (h.below hb1)
 have H0 := Hd h
 clear hB1 hb1 h hx hg hne
 cases hr : p k with
 | bad c a =>
   rw [hr] at h1
   have H1 := Hd h1
   clear h1 hr
   go_enter Tryz.func287, Tryz.ntmps287
   go_wp2_with (fail)
   refine H1.out.mono ?_
   rintro e w2 ⟨ha, rfl, hlf⟩
   have HA := Hd (HA1.out.trans ha)
   have HLF := Hd hlf
   clear hlf ha
   go_wp2_with (fail)
   exact ⟨rfl, HA.out, rfl, HLF.out⟩
 | ok x k1 =>
   rw [hr] at h1
   have H1 := Hd h1
   clear h1 hr
   go_enter Tryz.func287, Tryz.ntmps287
   go_wp2_with (fail)
   refine H1.out.mono ?_
   rintro e w2 ⟨ha, v2, rfl, hr2, hx2⟩
   have HA2 := Hd (HA1.out.trans ha)
   have hB2 := HB1.out.aside ha HNE.out
   have HB2 := Hd hB2
   have HR2 := Hd hr2
   have HX2 := Hd hx2
   obtain ⟨vl, va, rfl, hvl, hva⟩ := hx2
   obtain ⟨pl, cl, rfl, _⟩ := hvl
   obtain ⟨pa, ca, rfl, _⟩ := hva
   obtain ⟨c0, c1, c2, c3, c4, c5, c6⟩ := Blk.cells7 hB2
   obtain ⟨f0, f1, f2, f3, f4, f5, f6⟩ := Blk.fz7 hB2
   clear ha hB2 hr2 g1 H1 eW
   go_wp2_with (fail)
   refine bodyPost_ret (v := .agg #[.int .i64 x.kind, .int .i64 x.at_, .int .i64 x.num, .int .i64 x.ty, .string x.name, .slice pl x.lab.length cl, .slice pa x.kids.length ca]) ?_ rfl ?_
   · obtain ⟨q0, q1, q2, q3, q4, q5, q6⟩ := (Blk.sev (a := .int .i64 x.kind) (b := .int .i64 x.at_) (c := .int .i64 x.num) (d := .int .i64 x.ty) (e := .string x.name) (f := .slice pl x.lab.length cl) (g := .slice pa x.kids.length ca) HB2.out).cells7
     unfold sev at q0 q1 q2 q3 q4 q5 q6
     simp [results, Tryz.results287, go_sem, q0, q1, q2, q3, q4, q5, q6]
   · have hA9 := aside_sev (a := .int .i64 x.kind) (b := .int .i64 x.at_) (c := .int .i64 x.num) (d := .int .i64 x.ty) (e := .string x.name) (f := .slice pl x.lab.length cl) (g := .slice pa x.kids.length ca) HA2.out (Nat.le_refl _)
     exact ⟨hA9, _, rfl, H0.out.via hA9 (sev_block HNE.out) HR2.out, HX2.out.stays ((since_sev HN.out).trans (since_mono _ (Nat.le_of_lt HN.out)))⟩
theorem args_calls (h : Rdr w B T E tv k dp ns) {p : Nat → Rs Ex} (hx : ReadsEx B T E tv dp ns 69 #[.pointer (some ⟨B, 0, none⟩), .int .i64 1] p) : Calls Tryz.prog 248 #[.pointer (some ⟨B, 0, none⟩)] w (Does w B T E tv dp ns (fun W l v => SliceOf exE 7 W l v) (argsQ T E p k)) := by
 have hmf := mf_run
 have HPX := Hd hx
 clear hx
 have HP : Hid (argsQ T E p k = (mustP T E tLeft k).bind fun _ k1 =>
  if tkIs T k1 tRight then .ok [] (k1 + 1) else (listP T E p 4 tComma k1).bind fun l k2 => (mustP T E tRight k2).bind fun _ k3 => .ok l k3) := rfl
 obtain ⟨W1, eW⟩ : ∃ W1, w.alloc (.cells #[.pointer (some ⟨B, 0, none⟩)] 102) = W1 := ⟨_, rfl⟩
 have hB1 : Blk W1 w.heap.size [.pointer (some ⟨B, 0, none⟩)] 102 := by rw [← eW]; exact Blk.new _ _ _
 have hb1 : Below w.heap.size w W1 := by rw [← eW]; exact (Below.refl _ _).alloc (Nat.le_refl _) _
 have HN : Hid (w.heap.size < W1.heap.size) := hB1.lt
 have HNE : Hid (w.heap.size ≠ B) := by have := h.lt; unfold Hid; omega
 have HG : Hid (∀ W, Aside1 B W1 W → W.cell? ⟨w.heap.size, 0, none⟩ = some (.pointer (some ⟨B, 0, none⟩))) := fun W ha => by
  have := (hB1.aside ha HNE.out).cell 0
  simpa using this
 have HBL : Hid (B < W1.heap.size) := by have := h.lt; have := HN.out; unfold Hid; omega
 have HA1 := Hd (aside_below (B := B) hb1)
 have HR1 := Hd (h.below hb1)
 have g1 := HG.out W1 (Aside1.refl _ _)
 have h1 := must_calls HR1.out tLeft
 have HX : Hid (∀ W (l : List Ex) v, SliceOf exE 7 (since W1.heap.size W) l v → SliceOf exE 7 (since w.heap.size W) l v) := fun W l v q => SliceOf.stays exE_stays (since_mono _ (Nat.le_of_lt HN.out)) q
 clear hB1 hb1 h
 cases hm : mustP T E tLeft k with
 | bad c a =>
   rw [hm] at h1
   have HPE : Hid (argsQ T E p k = .bad c a) := by unfold Hid; rw [HP.out, hm]; rfl
   unfold tLeft at h1
   have H1 := Hd h1
   clear h1 hm
   go_enter Tryz.func248, Tryz.ntmps248
   go_wp2_with (fail)
   refine H1.out.mono ?_
   rintro e w2 ⟨ha, rfl, hlf⟩
   have HA := Hd (HA1.out.trans ha)
   have HLF := Hd hlf
   clear hlf ha
   go_wp2_with (fail)
   rw [HPE.out]
   exact ⟨rfl, HA.out, rfl, HLF.out⟩
 | ok u k1 =>
   rw [hm] at h1
   have HPE : Hid (argsQ T E p k = if tkIs T k1 tRight then .ok [] (k1 + 1) else (listP T E p 4 tComma k1).bind fun l k2 => (mustP T E tRight k2).bind fun _ k3 => .ok l k3) := by unfold Hid; rw [HP.out, hm]; rfl
   unfold tLeft at h1
   have H1 := Hd h1
   clear h1 hm HP
   cases hs : tkIs T k1 tRight with
   | true =>
     rw [hs] at HPE
     go_enter Tryz.func248, Tryz.ntmps248
     go_wp2_with (fail)
     refine H1.out.mono ?_
     rintro e w2 ⟨ha, v2, rfl, hr2, rfl⟩
     have HA2 := Hd ha
     have g2 := HG.out w2 ha
     have h2 := eat_yes hr2 tRight hs
     unfold tRight at h2
     have H2 := Hd h2
     clear ha hr2 h2 hs g1 eW H1
     go_wp2_with (fail)
     refine H2.out.mono ?_
     rintro e w3 ⟨rfl, ha, hr3⟩
     have HA3 := Hd (HA1.out.trans (HA2.out.trans ha))
     have HR3 := Hd hr3
     clear ha hr3 g2
     go_wp2_with (fail)
     go_ret
     rw [HPE.out]
     exact ⟨HA3.out, _, rfl, HR3.out, ⟨none, 0, rfl, Nat.le_refl _, by unfold maxLen; decide, .inl rfl⟩⟩
   | false =>
     rw [hs] at HPE
     go_enter Tryz.func248, Tryz.ntmps248
     go_wp2_with (fail)
     refine H1.out.mono ?_
     rintro e w2 ⟨ha, v2, rfl, hr2, rfl⟩
     have HA2 := Hd ha
     have g2 := HG.out w2 ha
     have h2 := eat_no hr2 tRight hs
     unfold tRight at h2
     have H2 := Hd h2
     clear ha hr2 h2 hs g1 eW H1
     go_wp2_with (fail)
     refine H2.out.mono ?_
     rintro e w3 ⟨rfl, ha, hr3⟩
     have HA3 := Hd (HA2.out.trans ha)
     have g3 := HG.out w3 HA3.out
     have h3 := listEx_calls w.heap.size hr3 p 4 tComma (by decide) (by decide) (fun W k ha hr => args1_calls HPX.out hr (HG.out W (HA3.out.trans ha)) HNE.out)
     have HSZ3 : Hid (W1.heap.size ≤ w3.heap.size) := HA3.out.size
     clear ha hr3 g2 H2 HA2
     cases hl : listP T E p 4 tComma k1 with
     | bad c a =>
       rw [hl] at h3 HPE
       unfold tComma at h3
       have H3 := Hd h3
       clear h3 hl
       go_wp2_with (fail)
       refine H3.out.mono ?_
       rintro e w4 ⟨ha, rfl, hlf⟩
       have HA := Hd (HA1.out.trans (HA3.out.trans ha))
       have HLF := Hd hlf
       clear hlf ha
       go_wp2_with (fail)
       rw [HPE.out]
       exact ⟨rfl, HA.out, rfl, HLF.out⟩
     | ok l k2 =>
       rw [hl] at h3 HPE
       unfold tComma at h3
       have H3 := Hd h3
       clear h3 hl
       go_wp2_with (fail)
       refine H3.out.mono ?_
       rintro e w4 ⟨ha, v4, rfl, hr4, hs4⟩
       have HA4 := Hd (HA3.out.trans ha)
       have HS4 : Hid (SliceOf exE 7 (since W1.heap.size w4) l v4) := SliceOf.stays exE_stays (since_mono _ HSZ3.out) hs4
       have g4 := HG.out w4 HA4.out
       have h4 := must_calls hr4 tRight
       obtain ⟨p4, n4, c4, rfl⟩ : ∃ p4 n4 c4, v4 = .slice p4 n4 c4 := by obtain ⟨p, c, e, _⟩ := hs4; exact ⟨_, _, _, e⟩
       clear ha hr4 hs4 g3 H3
       cases hm2 : mustP T E tRight k2 with
       | bad c a =>
         rw [hm2] at h4
         have HPF : Hid (argsQ T E p k = .bad c a) := by unfold Hid; rw [HPE.out]; show (mustP T E tRight k2).bind _ = _; rw [hm2]; rfl
         unfold tRight at h4
         have H4 := Hd h4
         clear h4 hm2
         go_wp2_with (fail)
         refine H4.out.mono ?_
         rintro e w5 ⟨ha, rfl, hlf⟩
         have HA := Hd (HA1.out.trans (HA4.out.trans ha))
         have HLF := Hd hlf
         clear hlf ha
         go_wp2_with (fail)
         rw [HPF.out]
         exact ⟨rfl, HA.out, rfl, HLF.out⟩
       | ok u5 k3 =>
         rw [hm2] at h4
         have HPF : Hid (argsQ T E p k = .ok l k3) := by unfold Hid; rw [HPE.out]; show (mustP T E tRight k2).bind _ = _; rw [hm2]; rfl
         unfold tRight at h4
         have H4 := Hd h4
         clear h4 hm2
         go_wp2_with (fail)
         refine H4.out.mono ?_
         rintro e w5 ⟨ha, v5, rfl, hr5, rfl⟩
         have HA := Hd (HA1.out.trans (HA4.out.trans ha))
         have HR5 := Hd hr5
         have HS5 := Hd (SliceOf.stays exE_stays (since_aside ha HBL.out) HS4.out)
         clear ha hr5
         go_wp2_with (fail)
         go_ret
         rw [HPF.out]
         exact ⟨HA.out, _, rfl, HR5.out, HX.out _ _ _ HS5.out⟩
end
end
section
open Go.RowKit Go.Maps
abbrev unbox (n1 n5 : Nat) (w : World) : World := hide (fun b => decide (b < n1) || b == n5) w
structure XI (w wo : World) (n5 : Nat) (B : Nat) (T : List Tok) (E : Int) (tv : Value) (dp ns : Nat) (x : Ex) (vl va : Value) (k : Nat) : Prop where
 rdr : Rdr wo B T E tv k dp ns
 aside : Aside1 B w wo
 res : Blk wo w.heap.size zeroC 26
 box : Blk wo n5 [.int .i64 x.kind, .int .i64 x.at_, .int .i64 x.num, .int .i64 x.ty, .string x.name, vl, va] 26
 lab : Lbl (unbox (w.heap.size + 1) n5 wo) x.lab vl
 kids : Exs (unbox (w.heap.size + 1) n5 wo) x.kids va
 old : w.heap.size < n5
section
variable {w wo wn w6 w7 : World} {n5 B : Nat} {T : List Tok} {E : Int} {tv : Value} {dp ns : Nat} {x y : Ex} {vl va : Value} {k k' : Nat}
theorem unbox_keeps {n1 n5 : Nat} (hs : wo.heap.size ≤ wn.heap.size) (h : ∀ b, b < wo.heap.size → n1 ≤ b → b ≠ n5 → wn.heap[b]? = wo.heap[b]?) : Keeps (unbox n1 n5 wo) (unbox n1 n5 wn) :=
 keeps_hide hs fun b hb hp => ⟨hp, h b hb (by simp at hp; omega) (by simp at hp; exact hp.2)⟩
theorem XI.step (h : XI w wo n5 B T E tv dp ns x vl va k) (hB : B < w.heap.size) (ha : Aside1 B wo wn) (hr : Rdr wn B T E tv k' dp ns) : XI w wn n5 B T E tv dp ns x vl va k' := by
 have hk : Keeps (unbox (w.heap.size + 1) n5 wo) (unbox (w.heap.size + 1) n5 wn) := unbox_keeps ha.size fun b hb h1 h2 => ha.block b hb (fun e => by simp at e; omega)
 exact ⟨hr, h.aside.trans ha, h.res.aside ha (by omega), h.box.aside ha (by have := h.old; omega), h.lab.stays hk, h.kids.stays hk, h.old⟩
theorem XI.below (h : XI w wo n5 B T E tv dp ns x vl va k) (hB : B < w.heap.size) (hb : Below wo.heap.size wo wn) : XI w wn n5 B T E tv dp ns x vl va k :=
 h.step hB (aside_below hb) (h.rdr.below hb)
theorem XI.is (h : XI w wo n5 B T E tv dp ns x vl va k) : ExIs (unbox (w.heap.size + 1) n5 wo) x (.agg #[.int .i64 x.kind, .int .i64 x.at_, .int .i64 x.num, .int .i64 x.ty, .string x.name, vl, va]) := ⟨vl, va, rfl, h.lab, h.kids⟩
abbrev exC (x : Ex) (vl va : Value) : List Value := [.int .i64 x.kind, .int .i64 x.at_, .int .i64 x.num, .int .i64 x.ty, .string x.name, vl, va]
theorem exC_of {W : World} {x : Ex} {vl va : Value} (h1 : Lbl W x.lab vl) (h2 : Exs W x.kids va) : exE W x (exC x vl va) := by
 obtain ⟨kind, at_, n, ty, name, l, a⟩ := x
 exact exE_mk h1 h2
theorem XI.first (h0 : Rdr w B T E tv k dp ns) {w1 w2 : World} (e1 : w1 = w.alloc (.cells zeroC.toArray 26)) (ha : Aside1 B w1 w2) (hr : Rdr w2 B T E tv k' dp ns) (hl : Lbl (since w1.heap.size w2) x.lab vl) (hk : Exs (since w1.heap.size w2) x.kids va) :
 XI w (w2.alloc (.cells (exC x vl va).toArray 26)) w2.heap.size B T E tv dp ns x vl va k' := by
 have hb1 : Below w.heap.size w w1 := by rw [e1]; exact (Below.refl _ _).alloc (Nat.le_refl _) _
 have hn1 : w1.heap.size = w.heap.size + 1 := by rw [e1]; simp
 have hB := h0.lt
 have hres : Blk w1 w.heap.size zeroC 26 := by rw [e1]; exact Blk.new _ _ _
 have hb3 : Below w2.heap.size w2 (w2.alloc (.cells (exC x vl va).toArray 26)) := (Below.refl _ _).alloc (Nat.le_refl _) _
 have hsz := ha.size
 have hkp : Keeps (since w1.heap.size w2) (unbox (w.heap.size + 1) w2.heap.size (w2.alloc (.cells (exC x vl va).toArray 26))) := keeps_hide hb3.size fun b hb hp => ⟨by simp at hp ⊢; omega, hb3.block b hb⟩
 exact ⟨hr.below hb3, (aside_below hb1).trans (ha.trans (aside_below hb3)), (hres.aside ha (by omega)).below hb3, Blk.new _ _ _, hl.stays hkp, hk.stays hkp, by omega⟩
theorem XI.next {k0 dp0 ns0 : Nat} (h : XI w w7 n5 B T E tv dp ns x vl va k) (h0 : Rdr w B T E tv k0 dp0 ns0) (hB : B < w.heap.size) {vl' va' : Value} (hn5 : n5 < w6.heap.size) (hl : Lbl (since w6.heap.size w7) y.lab vl') (hk : Exs (since w6.heap.size w7) y.kids va') (kind at_ : Int) (name : Txt) {wf : World}
 (ef : wf = sev (w7.alloc (.cells (exC x vl va ++ exC y vl' va').toArray 26)) n5 (.int .i64 kind) (.int .i64 at_) (.int .i64 0) (.int .i64 0) (.string name) (.slice none 0 0) (.slice (some ⟨w7.heap.size, 0, none⟩) 2 2)) (h67 : w6.heap.size ≤ w7.heap.size) (h6 : w.heap.size < w6.heap.size) :
 XI w wf n5 B T E tv dp ns (.mk kind at_ 0 0 name [] [x, y]) (.slice none 0 0) (.slice (some ⟨w7.heap.size, 0, none⟩) 2 2) k := by
 obtain ⟨w8, e8⟩ : ∃ w8, w7.alloc (.cells (exC x vl va ++ exC y vl' va').toArray 26) = w8 := ⟨_, rfl⟩
 have hb8 : Below w7.heap.size w7 w8 := by rw [← e8]; exact (Below.refl _ _).alloc (Nat.le_refl _) _
 have h8 := h.below hB hb8
 have hnew : Blk w8 w7.heap.size (exC x vl va ++ exC y vl' va') 26 := by rw [← e8]; exact Blk.new _ _ _
 rw [e8] at ef
 have hne : n5 ≠ w7.heap.size := by omega
 have hold := h.old
 have hsz : wf.heap.size = w8.heap.size := by rw [ef]; exact sev_size
 have hsame : ∀ b, b ≠ n5 → wf.heap[b]? = w8.heap[b]? := fun b hb => by rw [ef]; exact sev_block (fun e => hb e.symm)
 have hA : Aside1 B w wf := by rw [ef]; exact aside_sev h8.aside (by omega)
 have hkp : Keeps (unbox (w.heap.size + 1) n5 w8) (unbox (w.heap.size + 1) n5 wf) := unbox_keeps (by omega) fun b hb h1 h2 => hsame b h2
 have hx := exC_of (h8.lab.stays hkp) (h8.kids.stays hkp)
 have hkq : Keeps (since w6.heap.size w7) (unbox (w.heap.size + 1) n5 wf) := keeps_hide (by have := hb8.size; omega) fun b hb hp => by
  simp at hp
  exact ⟨by simp; omega, (hsame b (by omega)).trans (hb8.block b hb)⟩
 have hy := exC_of (hl.stays hkq) (hk.stays hkq)
 refine ⟨⟨?_, h0.toks.stays hA.keeps, h0.tab.aside hA⟩, hA, ?_, ?_, ⟨none, 0, rfl, Nat.le_refl _, by unfold maxLen; decide, .inl rfl⟩, ?_, hold⟩
 · rw [hsame B (by omega)]; exact h8.rdr.blk
 · exact (hsame _ (by omega)).trans h8.res
 · rw [ef]; exact Blk.sev h8.box
 · refine ⟨_, 2, rfl, Nat.le_refl _, by unfold maxLen; decide, .inr ⟨w7.heap.size, 0, rfl, fun i hi => ?_⟩⟩
   have hc : ∀ j, (unbox (w.heap.size + 1) n5 wf).cell? ⟨w7.heap.size, j, none⟩ = (exC x vl va ++ exC y vl' va')[j]? := fun j => by
    have hp : (decide (w7.heap.size < w.heap.size + 1) || w7.heap.size == n5) = false := by
     rw [Bool.or_eq_false_iff]
     exact ⟨decide_eq_false (by omega), beq_false_of_ne (by omega)⟩
    refine (hide_cell (fun b => decide (b < w.heap.size + 1) || b == n5) wf w7.heap.size j).trans ?_
    simp only [hp, Bool.false_eq_true, if_false]
    rw [World.cell?_of_block (a := ⟨w7.heap.size, j, none⟩) (hsame w7.heap.size (by omega))]
    exact hnew.cell j
   have hi2 : i = 0 ∨ i = 1 := by have e : [x, y].length = 2 := rfl; have hi' : i < [x, y].length := hi; omega
   rcases hi2 with rfl | rfl
   · refine ⟨exC x vl va, hx, rfl, fun j u hu => ?_⟩
     rw [hc, List.getElem?_append_left (by have := (List.getElem?_eq_some_iff.1 hu).1; omega)]
     simpa using hu
   · refine ⟨exC y vl' va', hy, rfl, fun j u hu => ?_⟩
     rw [hc, List.getElem?_append_right (by simp)]
     simpa using hu
end
theorem below_drew1 (w : World) : Below w.heap.size w w.drew := (Below.refl _ _).drew
theorem expr_out {w wo : World} {n5 B : Nat} {T : List Tok} {E : Int} {tv : Value} {dp ns k0 dp0 ns0 : Nat} {y : Ex} {vl va : Value} {k : Nat} (h0 : Rdr w B T E tv k0 dp0 ns0) (h : XI w wo n5 B T E tv dp ns y vl va k) (hB : B < w.heap.size) :
 Does w B T E tv dp ns ExIs (.ok y k) (.returned (.agg #[.int .i64 y.kind, .int .i64 y.at_, .int .i64 y.num, .int .i64 y.ty, .string y.name, vl, va])) (sev wo w.heap.size (.int .i64 y.kind) (.int .i64 y.at_) (.int .i64 y.num) (.int .i64 y.ty) (.string y.name) vl va) := by
 have hA := aside_sev (a := .int .i64 y.kind) (b := .int .i64 y.at_) (c := .int .i64 y.num) (d := .int .i64 y.ty) (e := .string y.name) (f := vl) (g := va) h.aside (Nat.le_refl _)
 refine ⟨hA, _, rfl, h0.via hA (sev_block (by omega)) h.rdr, h.is.stays (keeps_hide (by rw [sev_size]; exact Nat.le_refl _) fun b hb hp => ⟨?_, sev_block ?_⟩)⟩
 · simp at hp ⊢; omega
 · simp at hp; omega
theorem opLoop_stop {T : List Tok} {one : Nat → Rs Ex} {n : Int} {y : Ex} {k : Nat} (f : Nat) (h : (tkNext T k).1 ≠ 4 ∨ levelT (tkNext T k).2.2 ≠ n) : opLoop T one n f y k = .ok y k := by
 cases f with
 | zero => rfl
 | succ f => rw [opLoop, if_pos h]
def LevelC : Prop := ∀ (s : Txt) (W : World), Tab W → Calls Tryz.prog 143 #[.string s] W fun e w' => e = .returned (.int .i64 (levelT s)) ∧ Below W.heap.size W w'
section
variable {w : World} {B : Nat} {T : List Tok} {E : Int} {tv : Value} {k dp ns : Nat}
theorem expr_six {prim : Nat → Rs Ex} (hp : ReadsEx B T E tv dp ns 167 #[.pointer (some ⟨B, 0, none⟩)] prim) (h : Rdr w B T E tv k dp ns) :
 Calls Tryz.prog 69 #[.pointer (some ⟨B, 0, none⟩), .int .i64 6] w (Does w B T E tv dp ns ExIs (prim k)) := by
 obtain ⟨W1, eW⟩ : ∃ W1, w.alloc (.cells #[.int .i64 0, .int .i64 0, .int .i64 0, .int .i64 0, .string ⟨#[]⟩, .slice none 0 0, .slice none 0 0] 26) = W1 := ⟨_, rfl⟩
 have hB1 : Blk W1 w.heap.size zeroC 26 := by rw [← eW]; exact Blk.new _ _ _
 have hb1 : Below w.heap.size w W1 := by rw [← eW]; exact (Below.refl _ _).alloc (Nat.le_refl _) _
 have HN : Hid (w.heap.size < W1.heap.size) := hB1.lt
 have HNE : Hid (w.heap.size ≠ B) := by have := h.lt; unfold Hid; omega
 have HB1 := Hd hB1
 have HA1 := Hd (aside_below (B := B) hb1)
 have h1 := hp W1 k (h.below hb1)
 have H0 := Hd h
 clear hB1 hb1 h hp
 cases hr : prim k with
 | bad c a =>
   rw [hr] at h1
   have H1 := Hd h1
   clear h1 hr
   go_enter Tryz.func69, Tryz.ntmps69
   go_wp2_with (fail)
   refine H1.out.mono ?_
   rintro e w2 ⟨ha, rfl, hlf⟩
   have HA := Hd (HA1.out.trans ha)
   have HLF := Hd hlf
   clear hlf ha
   go_wp2_with (fail)
   exact ⟨rfl, HA.out, rfl, HLF.out⟩
 | ok x k1 =>
   rw [hr] at h1
   have H1 := Hd h1
   clear h1 hr
   go_enter Tryz.func69, Tryz.ntmps69
   go_wp2_with (fail)
   refine H1.out.mono ?_
   rintro e w2 ⟨ha, v2, rfl, hr2, hx2⟩
   have HA2 := Hd (HA1.out.trans ha)
   have hB2 := HB1.out.aside ha HNE.out
   have HB2 := Hd hB2
   have HR2 := Hd hr2
   have HX2 := Hd hx2
   obtain ⟨vl, va, rfl, hvl, hva⟩ := hx2
   obtain ⟨pl, cl, rfl, _⟩ := hvl
   obtain ⟨pa, ca, rfl, _⟩ := hva
   obtain ⟨c0, c1, c2, c3, c4, c5, c6⟩ := Blk.cells7 hB2
   obtain ⟨f0, f1, f2, f3, f4, f5, f6⟩ := Blk.fz7 hB2
   clear ha hB2 hr2 H1 eW
   go_wp2_with (fail)
   refine bodyPost_ret (v := .agg #[.int .i64 x.kind, .int .i64 x.at_, .int .i64 x.num, .int .i64 x.ty, .string x.name, .slice pl x.lab.length cl, .slice pa x.kids.length ca]) ?_ rfl ?_
   · obtain ⟨q0, q1, q2, q3, q4, q5, q6⟩ := (Blk.sev (a := .int .i64 x.kind) (b := .int .i64 x.at_) (c := .int .i64 x.num) (d := .int .i64 x.ty) (e := .string x.name) (f := .slice pl x.lab.length cl) (g := .slice pa x.kids.length ca) HB2.out).cells7
     unfold sev at q0 q1 q2 q3 q4 q5 q6
     simp [results, Tryz.results69, go_sem, q0, q1, q2, q3, q4, q5, q6]
   · have hA9 := aside_sev (a := .int .i64 x.kind) (b := .int .i64 x.at_) (c := .int .i64 x.num) (d := .int .i64 x.ty) (e := .string x.name) (f := .slice pl x.lab.length cl) (g := .slice pa x.kids.length ca) HA2.out (Nat.le_refl _)
     exact ⟨hA9, _, rfl, H0.out.via hA9 (sev_block HNE.out) HR2.out, HX2.out.stays ((since_sev HN.out).trans (since_mono _ (Nat.le_of_lt HN.out)))⟩
end
end
end Go.Proofs.YtminbehofnnhmaaGreatDoor
