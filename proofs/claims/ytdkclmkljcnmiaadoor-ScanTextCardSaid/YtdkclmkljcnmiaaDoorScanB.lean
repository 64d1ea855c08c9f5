/-
  Words and names: scan.words, scan.Word, scan.Name; slices.IndexFunc and ContainsFunc over texts.
-/
import Derived.Test.YtdkclmkljcnmiaaDoorScanA
namespace Go.Proofs.YtdkclmkljcnmiaaDoor
open Go.RowKit
set_option linter.unusedVariables false
set_option linter.unusedSimpArgs false

/-- The words of the language. -/
def wordsL : List Txt := [
  ⟨#[99, 104, 105, 101, 102]⟩,
  ⟨#[97, 99, 116, 115]⟩,
  ⟨#[105, 110]⟩,
  ⟨#[111, 117, 116]⟩,
  ⟨#[112, 114, 111, 99]⟩,
  ⟨#[98, 101, 103, 105, 110]⟩,
  ⟨#[102, 111, 114]⟩,
  ⟨#[118, 97, 114]⟩,
  ⟨#[105, 102]⟩,
  ⟨#[101, 108, 115, 101]⟩,
  ⟨#[119, 104, 105, 108, 101]⟩,
  ⟨#[115, 101, 110, 100]⟩,
  ⟨#[116, 97, 107, 101]⟩,
  ⟨#[100, 111]⟩,
  ⟨#[114, 101, 116, 117, 114, 110]⟩,
  ⟨#[114, 101, 108, 101, 97, 115, 101]⟩,
  ⟨#[116, 111]⟩,
  ⟨#[105, 110, 116]⟩,
  ⟨#[98, 111, 111, 108]⟩,
  ⟨#[116, 114, 117, 101]⟩,
  ⟨#[102, 97, 108, 115, 101]⟩]
def isWord (s : Txt) : Bool := has wordsL s

theorem strs_new (w : World) (l : List Txt) (e : TypeId) (hl : l.length ≤ 9223372036854775807) : Strs (w.alloc (.cells (l.map Value.string).toArray e)) l (.slice (some ⟨w.heap.size, 0, none⟩) l.length l.length) := by
  refine ⟨_, _, rfl, Nat.le_refl _, by unfold maxLen; omega, Or.inr ⟨_, _, rfl, fun i h => ⟨_, rfl, rfl, fun j x hx => ?_⟩⟩⟩
  rw [World.cell?_alloc_mark]
  match j, hx with
  | 0, hx =>
    simp at hx
    subst hx
    simp [h]

theorem words_calls (w : World) :
    Calls Tryd.prog 28 #[] w fun e w' => ∃ v, e = .returned v ∧ Strs w' wordsL v ∧ Below w.heap.size w w' := by
  go_enter Tryd.func28, Tryd.ntmps28
  go_wp2
  go_ret
  exact ⟨_, rfl, strs_new w wordsL 9 (by decide), (Below.refl _ _).alloc (Nat.le_refl _) _⟩

theorem word_calls (s : Txt) (w : World) :
    Calls Tryd.prog 8 #[.string s] w fun e w' => e = .returned (.bool (isWord s)) ∧ Below w.heap.size w w' := by
  go_enter Tryd.func8, Tryd.ntmps8
  go_wp2_with (first | (go_at_call 28; refine (words_calls _).mono ?_; rintro e w1 ⟨v, rfl, hv, hb⟩) | (go_at_call 27; refine (contains_calls wordsL s _ _ hv).mono ?_; rintro e w2 ⟨rfl, rfl⟩))
  go_ret
  exact ⟨rfl, hb⟩

def okAt (s : Txt) (i : Nat) : Bool := letterB (s.data.toList.getD i 0).toNat || (i != 0 && digitB (s.data.toList.getD i 0).toNat)
def isName (s : Txt) : Bool := decide (1 ≤ s.size) && decide (s.size ≤ 12) && !isWord s && (List.range s.size).all (okAt s)

theorem isName_long {s : Txt} (h : 12 < s.size) : isName s = false := by simp [isName]; omega
theorem isName_empty {s : Txt} (h : ¬ 1 ≤ s.size) : isName s = false := by simp [isName]; omega
theorem isName_word {s : Txt} (h : isWord s = true) : isName s = false := by simp [isName, h]
theorem isName_at {s : Txt} {k : Nat} (hk : k < s.size) (h : okAt s k = false) : isName s = false := by
  simp only [isName, Bool.and_eq_false_iff, List.all_eq_false, List.mem_range]
  exact Or.inr ⟨k, hk, by simp [h]⟩
theorem isName_all {s : Txt} (h1 : 1 ≤ s.size) (h2 : s.size ≤ 12) (h3 : isWord s = false) (h : ∀ j, j < s.size → okAt s j = true) : isName s = true := by
  simp only [isName, h1, h2, h3, decide_true, Bool.not_false, Bool.and_self, Bool.true_and, List.all_eq_true, List.mem_range]
  exact h
theorem byte_at (s : Txt) (k : Nat) (h : k < s.size) : s.data.toList.getD k 0 = s[k] := by
  simp [List.getD, h]; rfl

theorem all_snoc {p : Nat → Bool} {k : Nat} (h : ∀ j, j < k → p j = true) (hk : p k = true) : ∀ j, j < k + 1 → p j = true := by
  intro j hj
  by_cases e : j = k
  · exact e ▸ hk
  · exact h j (by omega)
theorem okAt_letter {s : Txt} {k : Nat} (h : k < s.size) (hl : letterB (s[k].toNat) = true) : okAt s k = true := by
  unfold okAt
  rw [byte_at s k h, hl]
  rfl
theorem okAt_digit {s : Txt} {k : Nat} (h : k < s.size) (h0 : ¬ k = 0) (hd : (!digitB (s[k].toNat)) = false) : okAt s k = true := by
  have hd' : digitB (s[k].toNat) = true := by simpa using hd
  unfold okAt
  rw [byte_at s k h, hd']
  simp [h0]
theorem okAt_first {s : Txt} {k : Nat} (h : k < s.size) (hl : ¬ letterB (s[k].toNat) = true) (h0 : k = 0) : okAt s k = false := by
  have hl' : letterB (s[k].toNat) = false := by simpa using hl
  unfold okAt
  rw [byte_at s k h, hl']
  simp [h0]
theorem okAt_none {s : Txt} {k : Nat} (h : k < s.size) (hl : ¬ letterB (s[k].toNat) = true) (h0 : ¬ k = 0) (hd : ((k : Int) == 0) = true ∨ (!digitB (s[k].toNat)) = true) : okAt s k = false := by
  have hl' : letterB (s[k].toNat) = false := by simpa using hl
  have hd' : digitB (s[k].toNat) = false := by
    rcases hd with hd | hd
    · exact absurd (by simpa using hd) h0
    · simpa using hd
  unfold okAt
  rw [byte_at s k h, hl', hd']
  simp

theorem name_calls (s : Txt) (w : World) :
    Calls Tryd.prog 10 #[.string s] w fun e w' => e = .returned (.bool (isName s)) ∧ Below w.heap.size w w' := by
  by_cases h1 : 1 ≤ s.size
  · by_cases h2 : s.size ≤ 12
    · have h3 : ¬ (s.size : Int) < 1 := by omega
      have h4 : ¬ 12 < (s.size : Int) := by omega
      cases hw : isWord s with
      | true =>
        go_enter Tryd.func10, Tryd.ntmps10
        go_wp2_with (go_at_call 8; refine (word_calls s _).mono ?_; rintro e w1 ⟨rfl, hb⟩)
        go_ret
        exact ⟨ret_bool (isName_word hw).symm, hb⟩
      | false =>
        go_enter Tryd.func10, Tryd.ntmps10
        go_wp2_with (go_at_call 8; refine (word_calls s _).mono ?_; rintro e w1 ⟨rfl, hb⟩)
        go_loop [3, 18] (fun _ i => ∃ k : Nat, k ≤ s.size ∧ i = .int .i64 k ∧ ∀ j, j < k → okAt s j = true) (fun _ i => s.size - (intOf i).toNat)
        case atStart => exact ⟨0, Nat.zero_le _, rfl, fun j hj => absurd hj (Nat.not_lt_zero _)⟩
        case round =>
          obtain ⟨k, hk, rfl, hall⟩ := hrel
          by_cases hlt : k < s.size
          · go_wp2_with (first | (go_at_call 14; refine (letter_calls _ _).mono ?_; rintro e w2 ⟨rfl, rfl⟩) | (go_at_call 16; refine (digit_calls _ _).mono ?_; rintro e w2 ⟨rfl, rfl⟩))
            · have hl : letterB (s[k].toNat) = true := by assumption
              go_round
              case rel => exact ⟨k + 1, by omega, by go_num, all_snoc hall (okAt_letter hlt hl)⟩
              case measure => simp [intOf]; omega
            · have hl : ¬ letterB (s[k].toNat) = true := by assumption
              have h0 : k = 0 := by assumption
              go_ret
              exact ⟨ret_bool (isName_at hlt (okAt_first hlt hl h0)).symm, hb⟩
            · have hl : ¬ letterB (s[k].toNat) = true := by assumption
              have h0 : ¬ k = 0 := by assumption
              have hd : ((k : Int) == 0) = true ∨ (!digitB (s[k].toNat)) = true := by assumption
              go_ret
              exact ⟨ret_bool (isName_at hlt (okAt_none hlt hl h0 hd)).symm, hb⟩
            · have hl : ¬ letterB (s[k].toNat) = true := by assumption
              have h0 : ¬ k = 0 := by assumption
              have hd : ((k : Int) == 0) = false ∧ (!digitB (s[k].toNat)) = false := by assumption
              go_round
              case rel => exact ⟨k + 1, by omega, by go_num, all_snoc hall (okAt_digit hlt h0 hd.2)⟩
              case measure => simp [intOf]; omega
          · go_wp2
            go_ret
            exact ⟨ret_bool (isName_all h1 h2 hw (fun j hj => hall j (by omega))).symm, hb⟩
    · have h3 : ¬ (s.size : Int) < 1 := by omega
      have h4 : 12 < (s.size : Int) := by omega
      go_enter Tryd.func10, Tryd.ntmps10
      go_wp2
      go_ret
      exact ⟨ret_bool (isName_long (by omega)).symm, Below.refl _ _⟩
  · have h3 : (s.size : Int) < 1 := by omega
    go_enter Tryd.func10, Tryd.ntmps10
    go_wp2
    go_ret
    exact ⟨ret_bool (isName_empty h1).symm, Below.refl _ _⟩
end Go.Proofs.YtdkclmkljcnmiaaDoor
