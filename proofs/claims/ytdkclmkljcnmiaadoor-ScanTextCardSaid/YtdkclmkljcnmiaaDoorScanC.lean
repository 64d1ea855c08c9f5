/-
  scan.run, the function values of scan.Scan, scan.signs.
-/
import Derived.Test.YtdkclmkljcnmiaaDoorShelf
import Derived.Test.YtdkclmkljcnmiaaDoorScanB
import Derived.Test.YtdkclmkljcnmiaaDoorBytes
import Derived.Test.YtdkclmkljcnmiaaDoorFuncs
namespace Go.Proofs.YtdkclmkljcnmiaaDoor
open Go.RowKit
set_option linter.unusedVariables false
set_option linter.unusedSimpArgs false

def restOf (s : Txt) (a : Nat) : List UInt8 := (bytesOf s).drop a
/-- Where a run of bytes that begins at a place ends. -/
def runEnd (q : Int → Bool) (s : Txt) (a : Nat) : Nat := a + ((restOf s a).takeWhile fun b => q b.toNat).length
theorem rest_cons {s : Txt} {k : Nat} (h : k < s.size) : restOf s k = s[k] :: restOf s (k + 1) := by
  unfold restOf
  rw [List.drop_eq_getElem_cons (by rw [bytesOf_len]; exact h), bytesOf_at s k h]
theorem rest_end {s : Txt} {k : Nat} (h : s.size ≤ k) : restOf s k = [] := by
  unfold restOf; exact List.drop_eq_nil_of_le (by rw [bytesOf_len]; exact h)
theorem runEnd_stop {q : Int → Bool} {s : Txt} {k : Nat} (h : k < s.size) (hq : q (s[k].toNat) = false) : runEnd q s k = k := by
  unfold runEnd; rw [rest_cons h, List.takeWhile_cons, if_neg (by rw [hq]; simp)]; rfl
theorem runEnd_over {q : Int → Bool} {s : Txt} {k : Nat} (h : s.size ≤ k) : runEnd q s k = k := by
  unfold runEnd; rw [rest_end h]; rfl
theorem runEnd_step {q : Int → Bool} {s : Txt} {k : Nat} (h : k < s.size) (hq : q (s[k].toNat) = true) : runEnd q s k = runEnd q s (k + 1) := by
  unfold runEnd; rw [rest_cons h, List.takeWhile_cons, if_pos hq, List.length_cons]; omega
theorem runEnd_ge (q : Int → Bool) (s : Txt) (a : Nat) : a ≤ runEnd q s a := Nat.le_add_right _ _
theorem runEnd_le {q : Int → Bool} {s : Txt} {a : Nat} (h : a ≤ s.size) : runEnd q s a ≤ s.size := by
  unfold runEnd
  have h1 := (List.takeWhile_sublist (p := fun b : UInt8 => q b.toNat) (l := restOf s a)).length_le
  have h2 : (restOf s a).length = s.size - a := by unfold restOf; rw [List.length_drop, bytesOf_len]
  omega

/-- A function value that tells `q` of a byte and does nothing else. -/
def TellsByte (fn : FuncId) (q : Int → Bool) : Prop := ∀ (n : Int) (w : World), Calls Tryd.prog fn #[.int .u8 n] w fun e w' => e = .returned (.bool (q n)) ∧ w = w'

theorem run_calls (s : Txt) (a : Nat) (hs : s.size ≤ 4000) (ha : a ≤ s.size) (fn : FuncId) (q : Int → Bool) (hq : TellsByte fn q) (eg : ∀ args w, (callFunc fn args).run Tryd.prog w = .ok (.enter fn args) w) (w : World) :
    Calls Tryd.prog 12 #[.string s, .int .i64 a, .func (.func fn) #[] #[]] w fun e w' => e = .returned (.string (s.extract a (runEnd q s a))) ∧ w' = w := by
  go_enter Tryd.func12, Tryd.ntmps12
  go_wp2
  go_loop [7] (fun i => ∃ k : Nat, a ≤ k ∧ k ≤ s.size ∧ i = .int .i64 k ∧ Hid (runEnd q s k = runEnd q s a)) (fun i => s.size - (intOf i).toNat)
  case atStart => exact ⟨a, Nat.le_refl _, ha, rfl, rfl⟩
  case round =>
    obtain ⟨k, hk1, hk, rfl, HE⟩ := hrel
    by_cases hlt : k < s.size
    · have hkk : (k : Int) < (s.size : Int) := by omega
      cases hc : q (s[k].toNat) with
      | true =>
        have HX : Hid (runEnd q s (k + 1) = runEnd q s a) := by rw [← HE.out]; exact (runEnd_step hlt hc).symm
        go_wp2_with (fail)
        refine (hq _ _).mono ?_
        rintro e w1 ⟨rfl, rfl⟩
        rw [hc]
        clear hc
        go_wp2
        go_round
        case rel => exact ⟨k + 1, by omega, by omega, by go_num, HX⟩
        case measure => simp [intOf]; omega
      | false =>
        have HX : Hid (runEnd q s a = k) := by rw [← HE.out]; exact runEnd_stop hlt hc
        go_wp2_with (fail)
        refine (hq _ _).mono ?_
        rintro e w1 ⟨rfl, rfl⟩
        rw [hc]
        clear hc
        go_wp2
        go_ret
        exact ⟨by rw [HX.out]; rfl, rfl⟩
    · have HX : Hid (runEnd q s a = k) := by rw [← HE.out]; exact runEnd_over (by omega)
      go_wp2
      go_ret
      exact ⟨by rw [HX.out]; rfl, rfl⟩

def noteB (n : Int) : Bool := n != 10
def wordB (n : Int) : Bool := letterB n || digitB n
theorem noteF_calls : TellsByte 13 noteB := fun n w => by
  go_enter Tryd.func13, Tryd.ntmps13
  go_wp2
  go_ret
  exact ⟨ret_bool (by unfold noteB; rfl), rfl⟩
theorem wordF_calls : TellsByte 15 wordB := fun n w => by
  cases hl : letterB n with
  | true =>
    have HX : Hid (wordB n = true) := by unfold Hid wordB; rw [hl]; rfl
    go_enter Tryd.func15, Tryd.ntmps15
    go_wp2_with (fail)
    refine (letter_calls n _).mono ?_
    rintro e w1 ⟨rfl, rfl⟩
    rw [hl]
    clear hl
    go_wp2
    go_ret
    exact ⟨ret_bool HX.out.symm, rfl⟩
  | false =>
    have HX : Hid (wordB n = digitB n) := by unfold Hid wordB; rw [hl]; rfl
    go_enter Tryd.func15, Tryd.ntmps15
    go_wp2_with (fail)
    refine (letter_calls n _).mono ?_
    rintro e w1 ⟨rfl, rfl⟩
    rw [hl]
    clear hl
    go_wp2_with (fail)
    refine (digit_calls n _).mono ?_
    rintro e w1 ⟨rfl, rfl⟩
    go_wp2
    go_ret
    exact ⟨ret_bool HX.out.symm, rfl⟩
theorem digitF_calls : TellsByte 16 digitB := digit_calls

def signsL : List Txt := [⟨#[38, 38]⟩, ⟨#[124, 124]⟩, ⟨#[61, 61]⟩, ⟨#[33, 61]⟩, ⟨#[60, 61]⟩, ⟨#[62, 61]⟩, ⟨#[43]⟩, ⟨#[45]⟩, ⟨#[42]⟩, ⟨#[47]⟩, ⟨#[37]⟩, ⟨#[60]⟩, ⟨#[62]⟩, ⟨#[33]⟩, ⟨#[40]⟩, ⟨#[41]⟩, ⟨#[123]⟩, ⟨#[125]⟩, ⟨#[44]⟩, ⟨#[59]⟩, ⟨#[58]⟩, ⟨#[61]⟩]
def signCells : Array Value := (signsL.map Value.string).toArray
theorem signs_calls (w : World) :
    Calls Tryd.prog 18 #[] w fun e w' => e = .returned (.slice (some ⟨w.heap.size, 0, none⟩) 22 22) ∧ w' = w.alloc (.cells signCells 9) := by
  go_enter Tryd.func18, Tryd.ntmps18
  go_wp2
  go_ret
  exact ⟨rfl, rfl⟩
theorem signs_strs (w : World) : Strs (w.alloc (.cells signCells 9)) signsL (.slice (some ⟨w.heap.size, 0, none⟩) 22 22) := strs_new w signsL 9 (by decide)

/-- Does a sign begin there? -/
def signAt (s : Txt) (a : Nat) (x : Txt) : Bool := Lib.hasPrefix (restOf s a) x.data.toList
theorem sign_eq (s x : Txt) (a : Nat) : Lib.hasPrefix (List.take (s.size - a) (List.drop a s.data.toList)) x.data.toList = signAt s a x := by
  unfold signAt restOf bytesOf
  rw [List.take_of_length_le (by rw [List.length_drop, Array.length_toList]; exact Nat.le_refl _)]
theorem signF_calls (s x : Txt) (a : Nat) (ha : a ≤ s.size) (g1 g2 : Nat) (w : World) (h1 : w.cell? ⟨g1, 0, none⟩ = some (.string s)) (h2 : w.cell? ⟨g2, 0, none⟩ = some (.int .i64 a)) :
    Calls Tryd.prog 19 #[.string x, .pointer (some ⟨g1, 0, none⟩), .pointer (some ⟨g2, 0, none⟩)] w fun e w' => e = .returned (.bool (signAt s a x)) ∧ w' = w := by
  go_enter Tryd.func19, Tryd.ntmps19
  go_wp2_with (fail)
  refine (Tryd.strings_HasPrefix _ _ _).mono ?_
  rintro e w1 ⟨rfl, rfl⟩
  go_wp2
  go_ret
  exact ⟨ret_bool (sign_eq s x a), rfl⟩
end Go.Proofs.YtdkclmkljcnmiaaDoor
