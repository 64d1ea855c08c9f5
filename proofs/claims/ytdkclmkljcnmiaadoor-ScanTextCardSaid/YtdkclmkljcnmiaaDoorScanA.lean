/-
  Letters, figures, words, names: what the small functions of package scan compute.
-/
import Derived.Test.YtdkclmkljcnmiaaDoorProg
import Derived.Test.YtdkclmkljcnmiaaDoorData
import Derived.Deep.QuietTactic
import Derived.BigQuiet
namespace Go.Proofs.YtdkclmkljcnmiaaDoor
open Go.RowKit
set_option linter.unusedVariables false
set_option linter.unusedSimpArgs false

theorem enters_at {P : Program} {f : FuncId} {fn : Func} {c : Code} (hf : P.funcs[f]? = some fn) (hname : (fn.name == "runtime.NumGoroutine") = false) (hb : fn.body = some c) (args : Array Value) (w : World) :
    (callFunc f args).run P w = .ok (.enter f args) w := by
  have h1 : fn.name ≠ "runtime.NumGoroutine" := by simpa using hname
  simp [callFunc, hf, h1, hb, mark]

theorem ret_bool {a b : Bool} (h : a = b) : Ending.returned (.bool a) = Ending.returned (.bool b) := by rw [h]
theorem ret_int {k : IntKind} {a b : Int} (h : a = b) : Ending.returned (.int k a) = Ending.returned (.int k b) := by rw [h]

def letterB (n : Int) : Bool := decide (97 ≤ n) && decide (n ≤ 122) || decide (65 ≤ n) && decide (n ≤ 90) || n == 95
def digitB (n : Int) : Bool := decide (48 ≤ n) && decide (n ≤ 57)

theorem letter_calls (n : Int) (w : World) :
    Calls Tryd.prog 14 #[.int .u8 n] w fun e w' => e = .returned (.bool (letterB n)) ∧ w = w' := by
  go_enter Tryd.func14, Tryd.ntmps14
  go_wp2
  all_goals go_ret
  all_goals exact ⟨ret_bool (by rw [Bool.eq_iff_iff]; simp [letterB] <;> omega), rfl⟩

theorem digit_calls (n : Int) (w : World) :
    Calls Tryd.prog 16 #[.int .u8 n] w fun e w' => e = .returned (.bool (digitB n)) ∧ w = w' := by
  go_enter Tryd.func16, Tryd.ntmps16
  go_wp2
  all_goals go_ret
  all_goals exact ⟨ret_bool (by rw [Bool.eq_iff_iff]; simp [digitB] <;> omega), rfl⟩

/-- Where in a list a text stands first; none: -1. -/
def idxOf (l : List Txt) (x : Txt) : Int := match l.idxOf? x with | some i => (i : Int) | none => -1

theorem idxOf_hit {l : List Txt} {x : Txt} {k : Nat} (hk : k < l.length) (h : l[k] = x) (hne : ∀ j, j < k → l[j]? ≠ some x) : idxOf l x = k := by
  unfold idxOf
  have : l.idxOf? x = some k := by
    rw [List.idxOf?, List.findIdx?_eq_some_iff_getElem]
    refine ⟨hk, by simp [h], fun j hj => ?_⟩
    have := hne j hj
    rw [List.getElem?_eq_getElem (by omega)] at this
    simpa using this
  rw [this]
theorem idxOf_miss {l : List Txt} {x : Txt} (hne : ∀ j, j < l.length → l[j]? ≠ some x) : idxOf l x = -1 := by
  unfold idxOf
  have : l.idxOf? x = none := by
    rw [List.idxOf?, List.findIdx?_eq_none_iff]
    intro y hy
    obtain ⟨j, hj, rfl⟩ := List.getElem_of_mem hy
    have := hne j hj
    rw [List.getElem?_eq_getElem hj] at this
    simpa using this
  rw [this]
theorem idxOf_mem (l : List Txt) (x : Txt) : decide (0 ≤ idxOf l x) = l.contains x := by
  unfold idxOf
  rw [Bool.eq_iff_iff]
  cases h : l.idxOf? x with
  | none =>
    rw [List.idxOf?, List.findIdx?_eq_none_iff] at h
    simp only [Int.reduceNeg, Int.neg_nonneg, decide_eq_true_eq, List.contains_iff_mem]
    constructor
    · intro h; omega
    · intro hm
      have := h x hm
      simp at this
  | some i =>
    rw [List.idxOf?, List.findIdx?_eq_some_iff_getElem] at h
    obtain ⟨hi, he, _⟩ := h
    simp only [beq_iff_eq] at he
    simp only [Int.natCast_nonneg, decide_true, List.contains_iff_mem, true_iff]
    exact he ▸ List.getElem_mem hi
theorem bytes_eq {x y : Txt} : (x.toList == y.toList) = true ↔ x = y := Lib.bytes_beq_iff x y

theorem index_calls (l : List Txt) (x : Txt) (v : Value) (w : World) (h : Strs w l v) :
    Calls Tryd.prog 40 #[v, .string x] w fun e w' => e = .returned (.int .i64 (idxOf l x)) ∧ w = w' := by
  obtain ⟨b, o, c, p, rfl, hlc, hc, hp, hcells⟩ := h.cells
  go_enter Tryd.func40, Tryd.ntmps40
  go_wp2
  go_loop [5, 8] (fun _ i => ∃ k : Nat, k ≤ l.length ∧ i = .int .i64 k ∧ ∀ j, j < k → l[j]? ≠ some x) (fun _ i => l.length - (intOf i).toNat)
  case atStart => exact ⟨0, Nat.zero_le _, rfl, fun j hj => absurd hj (Nat.not_lt_zero _)⟩
  case round =>
    obtain ⟨k, hk, rfl, hne⟩ := hrel
    by_cases hlt : k < l.length
    · have hcell := hcells k hlt
      obtain rfl := hp (by omega)
      clear hp hcells
      go_wp2
      · have he : (x.toList == (l[k]).toList) = true := by assumption
        go_ret
        exact ⟨ret_int (idxOf_hit hlt (bytes_eq.1 he).symm hne).symm, rfl⟩
      · have he : (x.toList == (l[k]).toList) = false := by assumption
        go_round
        case rel =>
          refine ⟨k + 1, by omega, by go_num, fun j hj => ?_⟩
          by_cases e : j = k
          · subst e
            rw [List.getElem?_eq_getElem hlt]
            intro h
            have := bytes_eq (x := x) (y := l[j])
            simp at h
            simp [h] at he
          · exact hne j (by omega)
        case measure => simp [intOf]; omega
    · go_wp2
      go_ret
      exact ⟨ret_int (idxOf_miss (fun j hj => hne j (by omega))).symm, rfl⟩

/-- Is a text in a list? (A word of its own, that the walk lets stand.) -/
def has (l : List Txt) (x : Txt) : Bool := l.contains x
theorem has_iff {l : List Txt} {x : Txt} : has l x = true ↔ x ∈ l := by simp [has]

theorem contains_calls (l : List Txt) (x : Txt) (v : Value) (w : World) (h : Strs w l v) :
    Calls Tryd.prog 27 #[v, .string x] w fun e w' => e = .returned (.bool (has l x)) ∧ w = w' := by
  go_enter Tryd.func27, Tryd.ntmps27
  go_wp2_with (go_at_call 40; refine (index_calls l x _ _ h).mono ?_; rintro e w' ⟨rfl, rfl⟩)
  go_ret
  exact ⟨ret_bool (idxOf_mem l x), rfl⟩
end Go.Proofs.YtdkclmkljcnmiaaDoor
