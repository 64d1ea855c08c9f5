/-
  Plain law: the document's words and names are the program's.
-/
import Derived.Test.YtdkclmkljcnmiaaDoorScanP
import Derived.Lib.IndexMore
import Derived.Lib.SlTrimSet
namespace Go.Proofs.YtdkclmkljcnmiaaDoor
open Go.RowKit
set_option linter.unusedVariables false
set_option linter.unusedSimpArgs false

theorem occ_infix {s sub : List UInt8} : (∃ j, j ≤ s.length ∧ Lib.occAt s sub j = true) ↔ sub <:+: s := by
  constructor
  · rintro ⟨j, _, h⟩
    unfold Lib.occAt at h
    rw [List.isPrefixOf_iff_prefix] at h
    exact h.isInfix.trans (List.drop_suffix j s).isInfix
  · rintro ⟨a, b, rfl⟩
    refine ⟨a.length, by simp, ?_⟩
    unfold Lib.occAt
    rw [List.isPrefixOf_iff_prefix, List.append_assoc, List.drop_left]
    exact List.prefix_append _ _
theorem contains_infix (s sub : List UInt8) : Lib.contains s sub = true ↔ sub <:+: s := by
  rw [← occ_infix]
  unfold Lib.contains
  rcases Lib.index_spec s sub with ⟨h1, h2⟩ | ⟨i, h1, h2, h3, _⟩
  · rw [h1]
    constructor
    · intro h; simp at h
    · rintro ⟨j, hj, h⟩
      rw [h2 j hj] at h
      cases h
  · rw [h1]
    constructor
    · intro _; exact ⟨i, h2, h3⟩
    · intro _; simp

/-- Texts with a blank ahead of each and behind the last. -/
def padL : List Txt → List UInt8
  | [] => [32]
  | x :: l => 32 :: (bytesOf x ++ padL l)
theorem padL_head (l : List Txt) : ∃ u, padL l = 32 :: u := by
  cases l with
  | nil => exact ⟨[], rfl⟩
  | cons x l => exact ⟨_, rfl⟩
theorem prefix_word : ∀ {x y u v : List UInt8}, (32 : UInt8) ∉ x → (32 : UInt8) ∉ y → (x ++ 32 :: u <+: y ++ 32 :: v) → x = y
  | [], [], _, _, _, _, _ => rfl
  | [], b :: y, u, v, _, hy, h => by
    rw [List.nil_append, List.cons_append, List.cons_prefix_cons] at h
    exact absurd (by rw [h.1]; simp) hy
  | a :: x, [], u, v, hx, _, h => by
    rw [List.nil_append, List.cons_append, List.cons_prefix_cons] at h
    exact absurd (by rw [h.1]; simp) hx
  | a :: x, b :: y, u, v, hx, hy, h => by
    rw [List.cons_append, List.cons_append, List.cons_prefix_cons] at h
    rw [h.1, prefix_word (fun m => hx (List.mem_cons_of_mem _ m)) (fun m => hy (List.mem_cons_of_mem _ m)) h.2]
theorem infix_past : ∀ {y s z : List UInt8}, (32 : UInt8) ∉ y → (32 :: s <:+: y ++ z) → 32 :: s <:+: z
  | [], _, _, _, h => h
  | b :: y, s, z, hy, h => by
    rw [List.cons_append, List.infix_cons_iff] at h
    rcases h with h | h
    · rw [List.cons_prefix_cons] at h
      exact absurd (by rw [h.1]; simp) hy
    · exact infix_past (fun m => hy (List.mem_cons_of_mem _ m)) h
theorem pad_infix {x : List UInt8} (hx : (32 : UInt8) ∉ x) : ∀ {l : List Txt}, (∀ y ∈ l, (32 : UInt8) ∉ bytesOf y) → ((32 :: (x ++ [32]) <:+: padL l) ↔ ∃ y ∈ l, bytesOf y = x)
  | [], _ => by
    constructor
    · intro h
      have := h.length_le
      simp [padL] at this
    · rintro ⟨y, hy, _⟩; cases hy
  | y :: l, hl => by
    have hy := hl y List.mem_cons_self
    have ih := pad_infix hx (l := l) fun z hz => hl z (List.mem_cons_of_mem _ hz)
    obtain ⟨u, hu⟩ := padL_head l
    constructor
    · intro h
      unfold padL at h
      rw [List.infix_cons_iff] at h
      rcases h with h | h
      · rw [List.cons_prefix_cons, hu] at h
        exact ⟨y, List.mem_cons_self, (prefix_word hx hy h.2).symm⟩
      · obtain ⟨z, hz, e⟩ := ih.1 (infix_past hy h)
        exact ⟨z, List.mem_cons_of_mem _ hz, e⟩
    · rintro ⟨z, hz, e⟩
      unfold padL
      rcases List.mem_cons.1 hz with rfl | hz
      · rw [e, hu]
        refine List.IsPrefix.isInfix ?_
        rw [List.cons_prefix_cons]
        refine ⟨rfl, u, by simp⟩
      · exact (ih.2 ⟨z, hz, e⟩).trans ((List.suffix_append _ _).isInfix.trans (List.suffix_cons _ _).isInfix)

/-- The document's word. -/
def padB : List UInt8 := padL wordsL
theorem words_no_blank : ∀ y ∈ wordsL, (32 : UInt8) ∉ bytesOf y := by decide +kernel
theorem words_full : ∀ y ∈ wordsL, bytesOf y ≠ [] := by decide +kernel
theorem word_law (s : Txt) (h0 : bytesOf s ≠ []) (hb : (32 : UInt8) ∉ bytesOf s) : Lib.contains padB (32 :: (bytesOf s ++ [32])) = isWord s := by
  rw [Bool.eq_iff_iff, contains_infix]
  unfold padB isWord
  rw [pad_infix hb words_no_blank, has_iff]
  constructor
  · rintro ⟨y, hy, e⟩
    rw [← txt_ext e]; exact hy
  · intro h; exact ⟨s, h, rfl⟩
theorem word_blank (s : Txt) (hb : (32 : UInt8) ∈ bytesOf s) : isWord s = false := by
  cases h : isWord s with
  | false => rfl
  | true => exact absurd hb (words_no_blank s (has_iff.1 h))
theorem word_empty (s : Txt) (hb : bytesOf s = []) : isWord s = false := by
  cases h : isWord s with
  | false => rfl
  | true => exact absurd hb (words_full s (has_iff.1 h))

def lettersB : List UInt8 := [97,98,99,100,101,102,103,104,105,106,107,108,109,110,111,112,113,114,115,116,117,118,119,120,121,122,65,66,67,68,69,70,71,72,73,74,75,76,77,78,79,80,81,82,83,84,85,86,87,88,89,90,95]
def figuresB : List UInt8 := [48,49,50,51,52,53,54,55,56,57]
theorem u8_all {p : UInt8 → Bool} (h : (List.range 256).all (fun i => p (UInt8.ofNat i)) = true) (b : UInt8) : p b = true := by
  have := List.all_eq_true.1 h b.toNat (by simpa using b.toNat_lt)
  simpa using this
theorem letters_mem (b : UInt8) : lettersB.contains b = letterB b.toNat := eq_of_beq (u8_all (p := fun b => lettersB.contains b == letterB b.toNat) (by decide +kernel) b)
theorem figures_mem (b : UInt8) : figuresB.contains b = digitB b.toNat := eq_of_beq (u8_all (p := fun b => figuresB.contains b == digitB b.toNat) (by decide +kernel) b)
theorem getD_bytes {l : List UInt8} {j : Nat} (h : j < l.length) : l.getD j 0 = l[j] := by simp [List.getD, h]
theorem wordset_mem (b : UInt8) : (lettersB ++ figuresB).contains b = wordB b.toNat := by
  rw [List.contains_append, letters_mem, figures_mem]; rfl
theorem dropWhile_nil {p : UInt8 → Bool} : ∀ {l : List UInt8}, l.dropWhile p = [] ↔ ∀ b ∈ l, p b = true
  | [] => by simp
  | x :: l => by
    rw [List.dropWhile_cons]
    split
    · rename_i h
      rw [dropWhile_nil]
      simp [h]
    · rename_i h
      constructor
      · intro e; cases e
      · intro e; exact absurd (e x List.mem_cons_self) h
theorem dropWhile_all {p : UInt8 → Bool} : ∀ {l : List UInt8}, (∀ b ∈ l.dropWhile p, p b = true) → l.dropWhile p = []
  | [], _ => rfl
  | x :: l, h => by
    rw [List.dropWhile_cons] at h ⊢
    split
    · rename_i hp
      rw [if_pos hp] at h
      exact dropWhile_all h
    · rename_i hp
      rw [if_neg hp] at h
      exact absurd (h x List.mem_cons_self) hp
theorem trim_nil {l cs : List UInt8} : Lib.trimS l cs = [] ↔ ∀ b ∈ l, cs.contains b = true := by
  unfold Lib.trimS Lib.trimLeftS Lib.trimRightS
  rw [dropWhile_nil]
  constructor
  · intro h
    have h1 : ∀ b ∈ l.reverse.dropWhile (cs.contains ·), cs.contains b = true := fun b hb => h b (by simpa using hb)
    have h2 := dropWhile_nil.1 (dropWhile_all h1)
    exact fun b hb => h2 b (by simpa using hb)
  · intro h b hb
    have : b ∈ l.reverse.dropWhile (cs.contains ·) := by simpa using hb
    have := (List.dropWhile_sublist _).subset this
    exact h b (by simpa using this)
/-- The document's name, behind its first tests. -/
theorem name_law (s : Txt) (h1 : 1 ≤ s.size) (h2 : s.size ≤ 12) (hw : isWord s = false) :
    isName s = (decide (Lib.trimS (bytesOf s) (lettersB ++ figuresB) = []) && !figuresB.contains (s.data.toList.getD 0 0)) := by
  have hL : isName s = (List.range s.size).all (okAt s) := by
    unfold isName
    rw [hw]
    simp [h1, h2]
  rw [hL, figures_mem, Bool.eq_iff_iff, List.all_eq_true, Bool.and_eq_true, decide_eq_true_eq, trim_nil]
  have hget : ∀ j, j < s.size → s.data.toList.getD j 0 ∈ bytesOf s := fun j hj => by
    unfold bytesOf
    rw [getD_bytes (by rw [← bytesOf_len] at hj; exact hj)]
    exact List.getElem_mem _
  have hdl : ∀ n : Int, letterB n = true → digitB n = false := fun n h => by
    unfold letterB at h
    unfold digitB
    simp at h ⊢
    omega
  constructor
  · intro h
    have h0 := h 0 (by simp; omega)
    unfold okAt at h0
    have hl0 : letterB (s.data.toList.getD 0 0).toNat = true := by simpa using h0
    refine ⟨fun b hb => ?_, by rw [hdl _ hl0]; rfl⟩
    rw [wordset_mem]
    obtain ⟨j, hj, e⟩ := List.getElem_of_mem hb
    have hj' : j < s.size := by rw [← bytesOf_len]; exact hj
    have hh := h j (by simpa using hj')
    unfold okAt at hh
    have e' : s.data.toList.getD j 0 = b := by
      exact (getD_bytes (l := s.data.toList) hj).trans e
    rw [e'] at hh
    unfold wordB
    rw [Bool.or_eq_true] at hh ⊢
    rcases hh with hh | hh
    · exact .inl hh
    · rw [Bool.and_eq_true] at hh; exact .inr hh.2
  · rintro ⟨h, h0⟩ j hj
    have hj' : j < s.size := by simpa using hj
    have hb := h _ (hget j hj')
    rw [wordset_mem] at hb
    unfold wordB at hb
    unfold okAt
    rw [Bool.or_eq_true] at hb ⊢
    rcases hb with hb | hb
    · exact .inl hb
    · right
      rw [Bool.and_eq_true]
      refine ⟨?_, hb⟩
      simp
      intro e
      subst e
      rw [hb] at h0
      cases h0
end Go.Proofs.YtdkclmkljcnmiaaDoor
