/-
  slices.Equal over numbers.
-/
import Derived.Test.YtianpbfieldngaaScanA
namespace Go.Proofs.Ytianpbfieldngaa
open Go.RowKit
set_option linter.unusedVariables false
set_option linter.unusedSimpArgs false

/-- `[]int`. -/
abbrev Nums (w : World) (l : List Int) (v : Value) : Prop := SliceOf num 1 w l v
theorem Nums.stays {w w' : World} (hk : Keeps w w') {l : List Int} {v : Value} (h : Nums w l v) : Nums w' l v := SliceOf.stays (One.stays _) hk h
/-- A slice of data of one cell each, opened: its length, its room; its cells. -/
theorem One.cells {α : Type} {f : α → Value} {w : World} {l : List α} {v : Value} (h : SliceOf (One f) 1 w l v) :
    ∃ b o c p, v = .slice p l.length c ∧ l.length ≤ c ∧ c ≤ 9223372036854775807 ∧ (0 < l.length → p = some ⟨b, o, none⟩) ∧ ∀ (i : Nat) (h : i < l.length), w.cell? ⟨b, o + i, none⟩ = some (f l[i]) := by
  obtain ⟨p, c, e, h1, h2, h3⟩ := h
  unfold maxLen at h2
  rcases h3 with rfl | ⟨b, o, hp, h3⟩
  · exact ⟨0, 0, c, p, e, h1, by omega, fun h => absurd h (by simp), fun i h => absurd h (by simp)⟩
  · refine ⟨b, o, c, p, e, h1, by omega, fun _ => hp, fun i hi => ?_⟩
    obtain ⟨vs, g1, g2, g3⟩ := h3 i hi
    have := g3 0 (f l[i]) (by rw [g1]; rfl)
    simpa using this

theorem eq_len {α : Type} [BEq α] {l m : List α} (h : l.length ≠ m.length) : (l == m) = false := by
  induction l generalizing m with
  | nil => cases m with
    | nil => simp at h
    | cons y m => rfl
  | cons x l ih => cases m with
    | nil => rfl
    | cons y m =>
      have : (l == m) = false := ih (by simpa using h)
      show (x == y && l == m) = false
      rw [this]; simp
theorem eq_at {α : Type} [BEq α] [LawfulBEq α] {l m : List α} {k : Nat} (h1 : k < l.length) (h2 : k < m.length) (h : (l[k] == m[k]) = false) : (l == m) = false := by
  rw [beq_eq_false_iff_ne]
  rintro rfl
  simp at h
theorem eq_all {α : Type} [BEq α] [LawfulBEq α] {l m : List α} (hn : l.length = m.length) (h : ∀ j (h1 : j < l.length) (h2 : j < m.length), (l[j] == m[j]) = true) : (l == m) = true := by
  rw [beq_iff_eq]
  exact List.ext_getElem hn fun j h1 h2 => by simpa using h j h1 h2

theorem below_drewN {B : Nat} {a w : World} (h : Below B a w) (n : Nat) : Below B a (w.drewN n) := ⟨h.os, h.tape, h.output, h.size, h.block⟩
/-- The world is the old one, but for answers drawn. -/
def Quiet (w w' : World) : Prop := ∃ n, w' = w.drewN n
theorem Quiet.below {w w' : World} (h : Quiet w w') : Below w.heap.size w w' := by
  obtain ⟨n, rfl⟩ := h
  have h := Below.refl w.heap.size w
  exact ⟨h.os, h.tape, h.output, h.size, h.block⟩

set_option maxHeartbeats 400000 in
theorem equalI_calls (l m : List Int) (v u : Value) (w : World) (hv : Nums w l v) (hu : Nums w m u) :
    Calls Try.prog 6 #[v, u] w fun e w' => e = .returned (.bool (l == m)) ∧ ∃ n, w' = w.drewN n := by
  obtain ⟨b, o, c, p, rfl, hlc, hc, hp, hcells⟩ := One.cells hv
  obtain ⟨b2, o2, c2, p2, rfl, hlc2, hc2, hp2, hcells2⟩ := One.cells hu
  clear hv hu
  by_cases hn : l.length = m.length
  · have HN := Lib.hid hn
    have hn1 : ((l.length : Int) != (m.length : Int)) = false := by simp [hn]
    have hn2 : ((l.length : Int) == (m.length : Int)) = true := by simp [hn]
    clear hn
    go_enter Try.func6, Try.ntmps6
    go_wp2
    go_loopw [5, 13] (fun _ i wr => ∃ k : Nat, k ≤ l.length ∧ i = .int .i64 k ∧ (∃ n, wr = w.drewN n) ∧ Hid (∀ j (h1 : j < l.length) (h2 : j < m.length), j < k → (l[j] == m[j]) = true)) (fun _ i _ => l.length - (intOf i).toNat)
    case atStart => exact ⟨0, Nat.zero_le _, rfl, ⟨0, rfl⟩, fun j _ _ hj => absurd hj (Nat.not_lt_zero _)⟩
    case round =>
      obtain ⟨k, hk, rfl, ⟨n, rfl⟩, HE⟩ := hrel
      by_cases hlt : k < l.length
      · have hlt2 : k < m.length := by have := HN.out; omega
        have hcell := hcells k hlt
        have hcell2 := hcells2 k hlt2
        obtain rfl := hp (by omega)
        obtain rfl := hp2 (by omega)
        clear hp hp2 hcells hcells2
        cases he : l[k] == m[k] with
        | true =>
          have HX : Hid ((l[k] == m[k]) = true) := he
          have he' : (l[k] != m[k]) = false := by simpa using he
          go_wp2
          go_quiet (fail)
          go_wp2
          go_roundw
          case rel =>
            refine ⟨k + 1, by omega, by go_num, ⟨n + nq, rfl⟩, fun j h1 h2 hj => ?_⟩
            by_cases e : j = k
            · subst e; exact HX.out
            · exact HE.out j h1 h2 (by omega)
          case measure => simp [intOf]; omega
        | false =>
          have HX : Hid ((l == m) = false) := eq_at hlt hlt2 he
          have he' : (l[k] != m[k]) = true := by simpa using he
          go_wp2
          go_quiet (fail)
          go_wp2
          go_ret
          exact ⟨ret_bool HX.out.symm, ⟨n + nq, by first | rw [World.drewN_drewN] | rfl⟩⟩
      · have HX : Hid ((l == m) = true) := eq_all HN.out fun j h1 h2 => HE.out j h1 h2 (by omega)
        go_wp2
        go_ret
        exact ⟨ret_bool HX.out.symm, ⟨n, rfl⟩⟩
  · have HX : Hid ((l == m) = false) := eq_len hn
    have hn1 : ((l.length : Int) != (m.length : Int)) = true := by simp; omega
    have hn2 : ((l.length : Int) == (m.length : Int)) = false := by simp; omega
    clear hn
    go_enter Try.func6, Try.ntmps6
    go_wp2
    go_ret
    exact ⟨ret_bool HX.out.symm, ⟨0, rfl⟩⟩
end Go.Proofs.Ytianpbfieldngaa
