/-
  slices.IndexFunc and ContainsFunc over numbers; solve.check and solve.into.
-/
import Derived.Test.YtjjlkckhbhgmoaaGreatSolveD
import Derived.Test.YtjjlkckhbhgmoaaGreatLessC
namespace Go.Proofs.YtjjlkckhbhgmoaaGreat
open Go.RowKit Go.Maps
set_option linter.unusedVariables false
set_option linter.unusedSimpArgs false

/-- A function value that tells `q` of each number of a list, whatever is made in between. -/
def TellsNum (W : World) (l : List Int) (fn : FuncId) (cap : Array Value) (q : Int → Bool) : Prop :=
  ∀ (x : Int), x ∈ l → ∀ (w : World), Below W.heap.size W w → Calls Tryz.prog fn (#[.int .i64 x] ++ cap) w fun e w' => e = .returned (.bool (q x)) ∧ Below w.heap.size w w'

theorem indexInt_calls (l : List Int) (v : Value) (fn : FuncId) (cap : Array Value) (q : Int → Bool) (w : World) (h : Nums w l v) (eg : ∀ args w, (callFunc fn args).run Tryz.prog w = .ok (.enter fn args) w) (hq : TellsNum w l fn cap q) :
    Calls Tryz.prog 39 #[v, .func (.func fn) #[] cap] w fun e w' => e = .returned (.int .i64 (idxBy l q)) ∧ Below w.heap.size w w' := by
  obtain ⟨b, o, c, p, rfl, hlc, hc, hp, hcells⟩ := h.cells
  go_enter Tryz.func39, Tryz.ntmps39
  go_wp2
  go_loopw [5, 8] (fun _ i wr => ∃ k : Nat, k ≤ l.length ∧ i = .int .i64 k ∧ Below w.heap.size w wr ∧ ∀ j (hj : j < l.length), j < k → q l[j] = false) (fun _ i _ => l.length - (intOf i).toNat)
  case atStart => exact ⟨0, Nat.zero_le _, rfl, Below.refl _ _, fun j _ hj => absurd hj (Nat.not_lt_zero _)⟩
  case round =>
    obtain ⟨k, hk, rfl, hb, hne⟩ := hrel
    by_cases hlt : k < l.length
    · have hcell0 := hcells k hlt
      have hcell : wr.cell? ⟨b, o + k, none⟩ = some (.int .i64 l[k]) := (hb.cell (cell_lt hcell0)).trans hcell0
      obtain rfl := hp (by omega)
      have HN := Lib.hid hne
      clear hp hcells hcell0 hne
      have HQ := hq l[k] (List.getElem_mem hlt) wr hb
      clear hq
      cases hx : q l[k] with
      | true =>
        rw [hx] at HQ
        have HX := Lib.hid hx
        clear hx
        go_wp2_with (fail)
        refine HQ.mono ?_
        rintro e w1 ⟨rfl, hb1⟩
        go_wp2
        go_ret
        exact ⟨ret_int (idxBy_hit hlt HX.out HN.out).symm, hb.trans (hb1.mono hb.size)⟩
      | false =>
        rw [hx] at HQ
        have HX := Lib.hid hx
        clear hx
        go_wp2_with (fail)
        refine HQ.mono ?_
        rintro e w1 ⟨rfl, hb1⟩
        go_wp2
        go_roundw
        case rel =>
          refine ⟨k + 1, by omega, by go_num, hb.trans (hb1.mono hb.size), fun j hj hj' => ?_⟩
          by_cases e : j = k
          · subst e; exact HX.out
          · exact HN.out j hj (by omega)
        case measure => simp [intOf]; omega
    · go_wp2
      go_ret
      exact ⟨ret_int (idxBy_miss (fun j hj => hne j hj (by omega))).symm, hb⟩

theorem containsInt_calls (l : List Int) (v : Value) (fn : FuncId) (cap : Array Value) (q : Int → Bool) (w : World) (h : Nums w l v)
    (eg : ∀ args w, (callFunc fn args).run Tryz.prog w = .ok (.enter fn args) w) (hq : TellsNum w l fn cap q) :
    Calls Tryz.prog 21 #[v, .func (.func fn) #[] cap] w fun e w' => e = .returned (.bool (anyBy l q)) ∧ Below w.heap.size w w' := by
  rw [← idxBy_any]
  go_enter Tryz.func21, Tryz.ntmps21
  go_wp2_with (go_at_call 39; refine (indexInt_calls l _ fn cap q _ h eg hq).mono ?_; rintro e w' ⟨rfl, hb⟩)
  go_ret
  exact ⟨rfl, hb⟩

theorem checkN_calls (k n : Int) (g : Nat) (w : World) (h : w.cell? ⟨g, 0, none⟩ = some (.int .i64 n)) :
    Calls Tryz.prog 22 #[.int .i64 k, .pointer (some ⟨g, 0, none⟩)] w fun e w' => e = .returned (.bool (decide (k < 0 ∨ n ≤ k))) ∧ Below w.heap.size w w' := by
  by_cases h1 : k < 0
  · have hx : decide (k < 0 ∨ n ≤ k) = true := by simp [h1]
    rw [hx]
    clear hx
    go_enter Tryz.func22, Tryz.ntmps22
    go_wp2
    go_ret
    exact ⟨rfl, Below.refl _ _⟩
  · by_cases h2 : n ≤ k
    · have hx : decide (k < 0 ∨ n ≤ k) = true := by simp [h2]
      rw [hx]
      clear hx
      go_enter Tryz.func22, Tryz.ntmps22
      go_wp2
      go_ret
      exact ⟨rfl, Below.refl _ _⟩
    · have hx : decide (k < 0 ∨ n ≤ k) = false := by simp [h1, h2]
      rw [hx]
      clear hx
      go_enter Tryz.func22, Tryz.ntmps22
      go_wp2
      go_ret
      exact ⟨rfl, Below.refl _ _⟩
theorem checkS_calls (l : List Txt) (s : Txt) (v : Value) (g : Nat) (w : World) (hv : Strs w l v) (h : w.cell? ⟨g, 0, none⟩ = some v) :
    Calls Tryz.prog 24 #[.string s, .pointer (some ⟨g, 0, none⟩)] w fun e w' => e = .returned (.bool (!has l s)) ∧ Below w.heap.size w w' := by
  obtain ⟨b, o, c, p, rfl, _⟩ := hv.cells
  go_enter Tryz.func24, Tryz.ntmps24
  go_wp2_with (fail)
  refine (contains_calls l s _ _ hv).mono ?_
  rintro e w1 ⟨rfl, rfl⟩
  go_wp2
  go_ret
  exact ⟨rfl, Below.refl _ _⟩

/-- Whether a bound is out of range. -/
def rangeB (n : Int) (b : Bnd) : Bool := decide (bTo b < -1) || (decide (n ≤ bTo b) || ((anyBy (bFrom b) fun k => decide (k < 0 ∨ n ≤ k)) || decide (400 < (bFrom b).length)))
theorem rangeB_iff {n : Int} {b : Bnd} : rangeB n b = true ↔ (bTo b < -1 ∨ n ≤ bTo b ∨ (∃ k ∈ bFrom b, k < 0 ∨ n ≤ k) ∨ 400 < (bFrom b).length) := by
  unfold rangeB
  simp only [Bool.or_eq_true, decide_eq_true_eq, any_iff]
theorem bndErr_range {l : List Txt} {acts : List (Txt × Txt)} {n : Int} {b : Bnd} (h : rangeB n b = true) : bndErr l acts n b = 3 := by
  unfold bndErr
  rw [if_pos (rangeB_iff.1 h)]
theorem bndErr_lab {l : List Txt} {acts : List (Txt × Txt)} {n : Int} {b : Bnd} (h : rangeB n b = false) (h1 : labE l acts (bL b) ≠ 0) : bndErr l acts n b = labE l acts (bL b) := by
  unfold bndErr
  rw [if_neg (fun e => by rw [rangeB_iff.2 e] at h; cases h), if_pos h1]
theorem bndErr_into {l : List Txt} {acts : List (Txt × Txt)} {n : Int} {b : Bnd} (h : rangeB n b = false) (h1 : labE l acts (bL b) = 0) (h2 : labE l acts (bInto b) ≠ 0) : bndErr l acts n b = labE l acts (bInto b) := by
  unfold bndErr
  rw [if_neg (fun e => by rw [rangeB_iff.2 e] at h; cases h), if_neg (by omega), if_pos h2]
theorem bndErr_many {l : List Txt} {acts : List (Txt × Txt)} {n : Int} {b : Bnd} (h : rangeB n b = false) (h1 : labE l acts (bL b) = 0) (h2 : labE l acts (bInto b) = 0) (h3 : 6 < (bFor b).length) : bndErr l acts n b = 2 := by
  unfold bndErr
  rw [if_neg (fun e => by rw [rangeB_iff.2 e] at h; cases h), if_neg (by omega), if_neg (by omega), if_pos h3]
theorem bndErr_who {l : List Txt} {acts : List (Txt × Txt)} {n : Int} {b : Bnd} (h : rangeB n b = false) (h1 : labE l acts (bL b) = 0) (h2 : labE l acts (bInto b) = 0) (h3 : ¬ 6 < (bFor b).length) :
    bndErr l acts n b = if (anyBy (bFor b) fun s => !has l s) = true then 5 else 0 := by
  unfold bndErr
  rw [if_neg (fun e => by rw [rangeB_iff.2 e] at h; cases h), if_neg (by omega), if_neg (by omega), if_neg h3]
  by_cases e : (anyBy (bFor b) fun s => !has l s) = true
  · obtain ⟨s, hs, e1⟩ := any_iff.1 e
    rw [if_pos e, if_neg]
    intro e2
    rw [List.all_eq_true.1 e2 s hs] at e1
    cases e1
  · rw [if_neg e, if_pos]
    refine List.all_eq_true.2 fun s hs => ?_
    cases e1 : has l s with
    | true => rfl
    | false => exact absurd (any_iff.2 ⟨s, hs, by rw [e1]; rfl⟩) e
end Go.Proofs.YtjjlkckhbhgmoaaGreat
