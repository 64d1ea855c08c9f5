/-
  slices.IndexFunc and slices.ContainsFunc over texts, by whatever a function value tells of each.
-/
import Derived.Test.YtdkclmkljcnmiaaDoorScanA
namespace Go.Proofs.YtdkclmkljcnmiaaDoor
open Go.RowKit
set_option linter.unusedVariables false
set_option linter.unusedSimpArgs false

/-- Where the first stands of which it holds; none: -1. -/
def idxBy {α : Type} (l : List α) (q : α → Bool) : Int := match l.findIdx? q with | some i => (i : Int) | none => -1
theorem idxBy_hit {α : Type} {l : List α} {q : α → Bool} {k : Nat} (hk : k < l.length) (h : q l[k] = true) (hne : ∀ j (hj : j < l.length), j < k → q l[j] = false) : idxBy l q = k := by
  unfold idxBy
  have : l.findIdx? q = some k := by
    rw [List.findIdx?_eq_some_iff_getElem]
    refine ⟨hk, h, fun j hj => ?_⟩
    rw [hne j (by omega) hj]
    simp
  rw [this]
theorem idxBy_miss {α : Type} {l : List α} {q : α → Bool} (hne : ∀ j (hj : j < l.length), q l[j] = false) : idxBy l q = -1 := by
  unfold idxBy
  have : l.findIdx? q = none := by
    rw [List.findIdx?_eq_none_iff]
    intro y hy
    obtain ⟨j, hj, rfl⟩ := List.getElem_of_mem hy
    exact hne j hj
  rw [this]
/-- Is there one of which it holds? -/
def anyBy {α : Type} (l : List α) (q : α → Bool) : Bool := l.any q
theorem idxBy_any {α : Type} (l : List α) (q : α → Bool) : decide (0 ≤ idxBy l q) = anyBy l q := by
  unfold idxBy anyBy
  rw [Bool.eq_iff_iff]
  cases h : l.findIdx? q with
  | none =>
    rw [List.findIdx?_eq_none_iff] at h
    simp only [Int.reduceNeg, Int.neg_nonneg, decide_eq_true_eq, List.any_eq_true]
    constructor
    · intro h; omega
    · rintro ⟨x, hx, hq⟩
      rw [h x hx] at hq
      cases hq
  | some i =>
    rw [List.findIdx?_eq_some_iff_getElem] at h
    obtain ⟨hi, he, _⟩ := h
    simp only [Int.natCast_nonneg, decide_true, List.any_eq_true, true_iff]
    exact ⟨_, List.getElem_mem hi, he⟩

/-- A function value that tells `q` of each text of a list, whatever is made in between. -/
def TellsTxt (W : World) (l : List Txt) (fn : FuncId) (cap : Array Value) (q : Txt → Bool) : Prop :=
  ∀ (x : Txt), x ∈ l → ∀ (w : World), Below W.heap.size W w → Calls Tryd.prog fn (#[.string x] ++ cap) w fun e w' => e = .returned (.bool (q x)) ∧ Below w.heap.size w w'

theorem indexFunc_calls (l : List Txt) (v : Value) (fn : FuncId) (cap : Array Value) (q : Txt → Bool) (w : World) (h : Strs w l v) (eg : ∀ args w, (callFunc fn args).run Tryd.prog w = .ok (.enter fn args) w) (hq : TellsTxt w l fn cap q) :
    Calls Tryd.prog 17 #[v, .func (.func fn) #[] cap] w fun e w' => e = .returned (.int .i64 (idxBy l q)) ∧ Below w.heap.size w w' := by
  obtain ⟨b, o, c, p, rfl, hlc, hc, hp, hcells⟩ := h.cells
  go_enter Tryd.func17, Tryd.ntmps17
  go_wp2
  go_loopw [5, 8] (fun _ i wr => ∃ k : Nat, k ≤ l.length ∧ i = .int .i64 k ∧ Below w.heap.size w wr ∧ ∀ j (hj : j < l.length), j < k → q l[j] = false) (fun _ i _ => l.length - (intOf i).toNat)
  case atStart => exact ⟨0, Nat.zero_le _, rfl, Below.refl _ _, fun j _ hj => absurd hj (Nat.not_lt_zero _)⟩
  case round =>
    obtain ⟨k, hk, rfl, hb, hne⟩ := hrel
    by_cases hlt : k < l.length
    · have hcell0 := hcells k hlt
      have hcell : wr.cell? ⟨b, o + k, none⟩ = some (.string l[k]) := (hb.cell (cell_lt hcell0)).trans hcell0
      obtain rfl := hp (by omega)
      have HN := Lib.hid hne
      clear hp hcells hcell0 hne
      have HQ := hq l[k] (List.getElem_mem hlt) wr hb
      clear hq
      cases hx : q l[k] with
      | true =>
        rw [hx] at HQ
        have HX := Lib.hid hx
        clear hx
        go_wp2_with (fail)
        refine HQ.mono ?_
        rintro e w1 ⟨rfl, hb1⟩
        go_wp2
        go_ret
        exact ⟨ret_int (idxBy_hit hlt HX.out HN.out).symm, hb.trans (hb1.mono hb.size)⟩
      | false =>
        rw [hx] at HQ
        have HX := Lib.hid hx
        clear hx
        go_wp2_with (fail)
        refine HQ.mono ?_
        rintro e w1 ⟨rfl, hb1⟩
        go_wp2
        go_roundw
        case rel =>
          refine ⟨k + 1, by omega, by go_num, hb.trans (hb1.mono hb.size), fun j hj hj' => ?_⟩
          by_cases e : j = k
          · subst e; exact HX.out
          · exact HN.out j hj (by omega)
        case measure => simp [intOf]; omega
    · go_wp2
      go_ret
      exact ⟨ret_int (idxBy_miss (fun j hj => hne j hj (by omega))).symm, hb⟩

end Go.Proofs.YtdkclmkljcnmiaaDoor
