/-
  What a call owns, as data: at a seat without package chief (there XChiefB has these).
-/
import Derived.Test.YtdkclmkljcnmiaaDoorLaw
import Derived.Test.YtdkclmkljcnmiaaDoorApp
namespace Go.Proofs.YtdkclmkljcnmiaaDoor
open Go.RowKit
set_option linter.unusedVariables false
set_option linter.unusedSimpArgs false

/-- What a call owns, as data. -/
theorem SliceOf.of_owns {α : Type} {E : Enc α} {k : Nat} {w : World} {l : List α} {base : Nat} {e : TypeId} {v : Value} {xs : List Value} (h : w.ownsRow base e k v l.length xs)
    (hE : ∀ i (hi : i < l.length), ∃ vs, E w l[i] vs ∧ vs.length = k ∧ ∀ j x, vs[j]? = some x → xs[i * k + j]? = some x) : SliceOf E k w l v := by
  obtain ⟨hl, h⟩ := h
  rcases h with ⟨rfl, hn⟩ | ⟨g, cap, cur, rfl, _, hh, h1, h2, h3, h4⟩
  · exact ⟨none, 0, by rw [hn], by omega, by unfold maxLen; omega, Or.inl (List.length_eq_zero_iff.1 hn)⟩
  · refine ⟨_, cap, rfl, h1, h2, Or.inr ⟨g, 0, rfl, fun i hi => ?_⟩⟩
    obtain ⟨vs, e1, e2, e3⟩ := hE i hi
    refine ⟨vs, e1, e2, fun j x hx => ?_⟩
    have := e3 j x hx
    rw [← h4, List.getElem?_take] at this
    split at this
    · simpa [World.cell?, hh] using this
    · cases this
theorem Strs.of_owns {w : World} {l : List Txt} {base : Nat} {e : TypeId} {v : Value} (h : w.ownsRow base e 1 v l.length (l.map Value.string)) : Strs w l v :=
  SliceOf.of_owns h fun i hi => ⟨_, rfl, rfl, fun j x hx => by
    match j, hx with
    | 0, hx =>
      simp at hx
      subst hx
      simp [hi]⟩

theorem Tryd.info_string : (Tryd.prog.info? 9).map (fun i => (i.zero, i.size, i.bytes)) = some (some (.string ByteArray.empty), 1, 16) := by kernel_rfl
end Go.Proofs.YtdkclmkljcnmiaaDoor
