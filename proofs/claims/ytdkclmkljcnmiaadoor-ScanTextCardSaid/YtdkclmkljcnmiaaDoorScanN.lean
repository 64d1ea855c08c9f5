/-
  Plain law: with a note behind it a text has the same tokens.
-/
import Derived.Test.YtdkclmkljcnmiaaDoorScanE
namespace Go.Proofs.YtdkclmkljcnmiaaDoor
open Go.RowKit
set_option linter.unusedVariables false
set_option linter.unusedSimpArgs false

theorem tw_more {p : UInt8 → Bool} {r : List UInt8} {c : UInt8} {u : List UInt8} (hc : p c = false) : (r ++ c :: u).takeWhile p = r.takeWhile p := by
  induction r with
  | nil => rw [List.nil_append, List.takeWhile_cons, if_neg (by rw [hc]; simp)]; rfl
  | cons x r ih =>
    rw [List.cons_append, List.takeWhile_cons, List.takeWhile_cons, ih]
theorem prefix_more {x r : List UInt8} {c : UInt8} {u : List UInt8} (hx : c ∉ x) : x.isPrefixOf (r ++ c :: u) = x.isPrefixOf r := by
  induction x generalizing r with
  | nil => simp
  | cons y x ih =>
    cases r with
    | nil =>
      rw [List.nil_append]
      have : y ≠ c := fun e => hx (by rw [e]; simp)
      simp [List.isPrefixOf, this]
    | cons z r =>
      rw [List.cons_append]
      simp only [List.isPrefixOf]
      rw [ih (fun h => hx (List.mem_cons_of_mem _ h))]
theorem signs_no_blank : ∀ x ∈ signsL, (32 : UInt8) ∉ x.data.toList := by decide +kernel
/-- A text with a note behind it. -/
def noted (s note : Txt) : Txt := s ++ ⟨#[32, 35]⟩ ++ note
theorem noted_bytes (s note : Txt) : bytesOf (noted s note) = bytesOf s ++ 32 :: 35 :: bytesOf note := by
  unfold noted
  rw [bytesOf_append, bytesOf_append, List.append_assoc]
  rfl
theorem noted_size (s note : Txt) : (noted s note).size = s.size + note.size + 2 := by
  rw [← bytesOf_len, noted_bytes, List.length_append, List.length_cons, List.length_cons, bytesOf_len, bytesOf_len]; omega
theorem noted_rest {s note : Txt} {a : Nat} (h : a ≤ s.size) : restOf (noted s note) a = restOf s a ++ 32 :: 35 :: bytesOf note := by
  unfold restOf
  rw [noted_bytes, List.drop_append_of_le_length (by rw [bytesOf_len]; exact h)]
theorem noted_run {q : Int → Bool} (hq : q 32 = false) {s note : Txt} {a : Nat} (h : a ≤ s.size) : runEnd q (noted s note) a = runEnd q s a := by
  unfold runEnd
  rw [noted_rest h, tw_more (p := fun b : UInt8 => q b.toNat) (c := 32) (show q ((32 : UInt8).toNat : Int) = false from hq)]
theorem noted_extract {s note : Txt} {a e : Nat} (h : e ≤ s.size) : (noted s note).extract a e = s.extract a e := by
  apply txt_ext
  rw [bytesOf_extract, bytesOf_extract, noted_bytes]
  by_cases ha : a ≤ s.size
  · rw [List.drop_append_of_le_length (by rw [bytesOf_len]; exact ha), List.take_append_of_le_length (by rw [List.length_drop, bytesOf_len]; omega)]
  · rw [show e - a = 0 by omega]; simp
theorem noted_sign {s note : Txt} {a : Nat} (h : a ≤ s.size) {x : Txt} (hx : x ∈ signsL) : signAt (noted s note) a x = signAt s a x := by
  unfold signAt Lib.hasPrefix
  rw [noted_rest h, prefix_more (signs_no_blank x hx)]
theorem find_same {α : Type} {p q : α → Bool} : ∀ {l : List α}, (∀ x ∈ l, p x = q x) → l.find? p = l.find? q
  | [], _ => rfl
  | x :: l, h => by
    rw [List.find?_cons, List.find?_cons, h x List.mem_cons_self, find_same fun y hy => h y (List.mem_cons_of_mem _ hy)]
theorem noted_byte {s note : Txt} {a : Nat} (h : a < s.size) (h' : a < (noted s note).size) : (noted s note)[a] = s[a] := by
  have h1 := rest_cons h'
  have h2 := noted_rest (note := note) (Nat.le_of_lt h)
  rw [h1, rest_cons h, List.cons_append, List.cons.injEq] at h2
  exact h2.1
theorem noted_step {s note : Txt} {a : Nat} (h : a < s.size) {c : Int} (hc : (c == 35) = false) : stepOf (noted s note) a c = stepOf s a c := by
  have e1 : runEnd wordB (noted s note) a = runEnd wordB s a := noted_run (by decide) (Nat.le_of_lt h)
  have e2 : runEnd digitB (noted s note) a = runEnd digitB s a := noted_run (by decide) (Nat.le_of_lt h)
  have e3 : signOf (noted s note) a = signOf s a := by
    unfold signOf
    rw [find_same fun x hx => noted_sign (Nat.le_of_lt h) hx]
  have l1 : runEnd wordB s a ≤ s.size := runEnd_le (Nat.le_of_lt h)
  have l2 : runEnd digitB s a ≤ s.size := runEnd_le (Nat.le_of_lt h)
  unfold stepOf
  rw [e1, e2, e3, hc, noted_extract l1, noted_extract l2]
  rfl
theorem tw_all {p : UInt8 → Bool} {r : List UInt8} (h : ∀ b ∈ r, p b = true) : r.takeWhile p = r := by
  induction r with
  | nil => rfl
  | cons x r ih => rw [List.takeWhile_cons, if_pos (h x List.mem_cons_self), ih fun b hb => h b (List.mem_cons_of_mem _ hb)]
theorem rest_len {s : Txt} {a : Nat} : (restOf s a).length = s.size - a := by unfold restOf; rw [List.length_drop, bytesOf_len]
theorem noted_note {s note : Txt} {a : Nat} (hn : ∀ b ∈ bytesOf note, noteB b.toNat = true) (h : a ≤ s.size) :
    runEnd noteB (noted s note) a = runEnd noteB s a ∨ (runEnd noteB s a = s.size ∧ runEnd noteB (noted s note) a = (noted s note).size) := by
  unfold runEnd
  rw [noted_rest h, List.takeWhile_append]
  split
  · rename_i he
    right
    rw [rest_len] at he
    have ht : (32 :: 35 :: bytesOf note).takeWhile (fun b => noteB b.toNat) = 32 :: 35 :: bytesOf note := tw_all fun b hb => by
      rcases List.mem_cons.1 hb with rfl | hb
      · decide
      · rcases List.mem_cons.1 hb with rfl | hb
        · decide
        · exact hn b hb
    rw [ht, List.length_append, rest_len, List.length_cons, List.length_cons, bytesOf_len, noted_size]
    omega
  · left; rfl
theorem noted_end {s note : Txt} (hn : ∀ b ∈ bytesOf note, noteB b.toNat = true) {f : Nat} (hf : 2 ≤ f) {l : List Tok} : scanGo (noted s note) f s.size l = (l, 0, 0) := by
  obtain ⟨f, rfl⟩ : ∃ g, f = g + 1 + 1 := ⟨f - 2, by omega⟩
  have hs := noted_size s note
  have h1 : s.size < (noted s note).size := by omega
  have h2 : s.size + 1 < (noted s note).size := by omega
  have r1 := rest_cons h1
  have r2 := rest_cons h2
  rw [noted_rest (Nat.le_refl _), rest_end (Nat.le_refl _), List.nil_append, List.cons.injEq] at r1
  rw [← r1.2, List.cons.injEq] at r2
  rw [scanGo_skip (n := 1) h1 (by rw [← r1.1]; rfl)]
  have hnote : stepOf (noted s note) (s.size + 1) ((noted s note)[s.size + 1].toNat) = .skip (runEnd noteB (noted s note) (s.size + 1) - (s.size + 1)) := by rw [← r2.1]; rfl
  rw [scanGo_skip h2 hnote]
  have he : runEnd noteB (noted s note) (s.size + 1) = (noted s note).size := by
    unfold runEnd
    rw [rest_cons h2, ← r2.1, ← r2.2, tw_all, List.length_cons, bytesOf_len, hs]
    · omega
    · intro b hb
      rcases List.mem_cons.1 hb with rfl | hb
      · decide
      · exact hn b hb
  rw [he]
  exact scanGo_end (by omega)
/-- A step goes on, and not over the end. -/
def fits (s : Txt) (a : Nat) : Step → Prop
  | .skip n => 0 < n ∧ a + n ≤ s.size
  | .tok _ t => 0 < t.size ∧ a + t.size ≤ s.size
  | .bad c => c ≠ 0
theorem run_fits {q : Int → Bool} {s : Txt} {a : Nat} (h : a < s.size) (hq : q (s[a].toNat) = true) : a < runEnd q s a ∧ runEnd q s a ≤ s.size := by
  refine ⟨?_, runEnd_le (Nat.le_of_lt h)⟩
  rw [runEnd_step h hq]
  exact runEnd_ge _ _ _
theorem step_fits {s : Txt} {a : Nat} (h : a < s.size) : fits s a (stepOf s a (s[a].toNat)) := by
  unfold stepOf
  split
  · exact ⟨by omega, by omega⟩
  · split
    · exact ⟨by omega, by omega⟩
    · split
      · exact ⟨by omega, by omega⟩
      · split
        · rename_i h35
          obtain ⟨h1, h2⟩ := run_fits (q := noteB) h (by unfold noteB; have : (s[a].toNat : Int) = 35 := by simpa using h35
                                                         rw [this]; rfl)
          exact ⟨by omega, by omega⟩
        · split
          · rename_i hl
            obtain ⟨h1, h2⟩ := run_fits (q := wordB) h (by unfold wordB; rw [hl]; rfl)
            have ht : (s.extract a (runEnd wordB s a)).size = runEnd wordB s a - a := by rw [ByteArray.size_extract]; omega
            unfold wordOf
            split
            · exact ⟨by omega, by omega⟩
            · split
              · exact ⟨by omega, by omega⟩
              · exact (by decide : (2 : Int) ≠ 0)
          · split
            · rename_i hd
              obtain ⟨h1, h2⟩ := run_fits (q := digitB) h hd
              have ht : (s.extract a (runEnd digitB s a)).size = runEnd digitB s a - a := by rw [ByteArray.size_extract]; omega
              unfold numOf
              split
              · exact (by decide : (3 : Int) ≠ 0)
              · split
                · exact (by decide : (3 : Int) ≠ 0)
                · exact ⟨by omega, by omega⟩
            · unfold signOf
              split
              · rename_i x hx
                obtain ⟨h1, h2⟩ := sign_fits (Nat.le_of_lt h) (List.find?_some hx) (List.mem_of_find?_eq_some hx)
                exact ⟨by omega, by omega⟩
              · exact (by decide : (1 : Int) ≠ 0)
theorem noted_go {s note : Txt} (hn : ∀ b ∈ bytesOf note, noteB b.toNat = true) : ∀ (f a : Nat) (l L : List Tok) (f' : Nat), a ≤ s.size → s.size - a ≤ f → (noted s note).size - a ≤ f' →
    scanGo s f a l = (L, 0, 0) → scanGo (noted s note) f' a l = (L, 0, 0) := by
  intro f
  induction f with
  | zero =>
    intro a l L f' ha hf hf' h
    obtain rfl : a = s.size := by omega
    have e : scanGo s 0 s.size l = (l, 0, 0) := rfl
    rw [e] at h
    rw [← h]
    exact noted_end hn (by rw [noted_size] at hf'; omega)
  | succ f ih =>
    intro a l L f' ha hf hf' h
    have hsz := noted_size s note
    by_cases hlt : a < s.size
    · have h' : a < (noted s note).size := by omega
      obtain ⟨g, rfl⟩ : ∃ g, f' = g + 1 := ⟨f' - 1, by omega⟩
      have hb := noted_byte (note := note) hlt h'
      have hfit := step_fits hlt
      by_cases hc : ((s[a].toNat : Int) == 35) = true
      · have hst : ∀ s' : Txt, stepOf s' a (s[a].toNat) = .skip (runEnd noteB s' a - a) := fun s' => by
          have : (s[a].toNat : Int) = 35 := by simpa using hc
          rw [this]; rfl
        rw [scanGo_skip hlt (hst s)] at h
        rw [hst s] at hfit
        obtain ⟨f1, f2⟩ := hfit
        rcases noted_note (note := note) hn ha with e | ⟨e1, e2⟩
        · rw [scanGo_skip h' (by rw [hb]; exact hst _), e]
          exact ih _ _ _ _ f2 (by omega) (by omega) h
        · rw [scanGo_skip h' (by rw [hb]; exact hst _), e2, show a + ((noted s note).size - a) = (noted s note).size by omega, scanGo_end (by omega)]
          rw [e1, show a + (s.size - a) = s.size by omega, scanGo_end (by omega)] at h
          exact h
      · have hst := noted_step (note := note) hlt (c := s[a].toNat) (by simpa using hc)
        cases hs : stepOf s a (s[a].toNat) with
        | skip n =>
          rw [hs] at hfit
          obtain ⟨f1, f2⟩ := hfit
          rw [scanGo_skip hlt hs] at h
          rw [scanGo_skip h' (by rw [hb, hst]; exact hs)]
          exact ih _ _ _ _ f2 (by omega) (by omega) h
        | bad c =>
          rw [hs] at hfit
          rw [scanGo_bad hlt hs] at h
          have e : c = 0 := congrArg (fun x : List Tok × Int × Int => x.2.1) h
          exact absurd e hfit
        | tok k t =>
          rw [hs] at hfit
          obtain ⟨f1, f2⟩ := hfit
          by_cases hm : l.length = 600
          · rw [scanGo_many hlt hs hm] at h
            have e : (2 : Int) = 0 := congrArg (fun x : List Tok × Int × Int => x.2.1) h
            exact absurd e (by decide)
          · rw [scanGo_tok hlt hs hm] at h
            rw [scanGo_tok h' (by rw [hb, hst]; exact hs) hm]
            exact ih _ _ _ _ f2 (by omega) (by omega) h
    · obtain rfl : a = s.size := by omega
      rw [scanGo_end hlt] at h
      rw [← h]
      exact noted_end hn (by omega)
theorem note_law {s note : Txt} {L : List Tok} (hn : ∀ b ∈ bytesOf note, noteB b.toNat = true) (hz : s.size + note.size + 2 ≤ 4000) (h : scanOf s = (L, 0, 0)) : scanOf (noted s note) = (L, 0, 0) := by
  unfold scanOf at *
  rw [if_neg (by omega)] at h
  rw [if_neg (by rw [noted_size]; omega)]
  exact noted_go hn _ _ _ _ _ (Nat.zero_le _) (by omega) (by omega) h
end Go.Proofs.YtdkclmkljcnmiaaDoor
