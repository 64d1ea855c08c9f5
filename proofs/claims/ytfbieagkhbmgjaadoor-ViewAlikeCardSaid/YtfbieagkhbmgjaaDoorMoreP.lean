/-
  Plain law: with pairs more nobody acts for fewer.
-/
import Derived.Test.YtfbieagkhbmgjaaDoorSameP
import Derived.Test.YtfbieagkhbmgjaaDoorFuncs
namespace Go.Proofs.YtfbieagkhbmgjaaDoor
set_option linter.unusedVariables false
set_option linter.unusedSimpArgs false

theorem forE_zero {l : List Txt} {acts : List (Txt × Txt)} {b : Txt} (h : forE l acts b = 0) : checkC l acts = 0 ∧ has l b = true := by
  unfold forE at h
  split at h
  · omega
  · rename_i h1
    refine ⟨by omega, ?_⟩
    cases e : has l b with
    | true => rfl
    | false => rw [e] at h; simp at h
theorem edge_more {l : List Txt} {acts more : List (Txt × Txt)} {i j : Nat} (h : edgeM l acts i j = true) : edgeM l (acts ++ more) i j = true := by
  rcases edge_iff.1 h with h | ⟨x, hx, h⟩
  · exact edge_iff.2 (.inl h)
  · exact edge_iff.2 (.inr ⟨x, List.mem_append_left _ hx, h⟩)
theorem clos_more {l : List Txt} {acts more : List (Txt × Txt)} {i j : Nat} (h : closM l acts i j = true) : closM l (acts ++ more) i j = true :=
  clos_reach.2 ((clos_reach.1 h).mono fun _ _ e => edge_more e)
theorem act_more {l : List Txt} {acts more : List (Txt × Txt)} {a b : Txt} (h : actM l acts a b = true) : actM l (acts ++ more) a b = true := clos_more h
theorem more_for {l : List Txt} {acts more : List (Txt × Txt)} {b : Txt} (h1 : forE l acts b = 0) (h2 : forE l (acts ++ more) b = 0) :
    anyBy (forR l acts b) (fun s => !has (forR l (acts ++ more) b) s) = false ∧ has (forR l acts b) b = true := by
  unfold forR
  rw [if_pos h1, if_pos h2]
  unfold forL
  constructor
  · unfold anyBy
    rw [List.any_eq_false]
    intro s hs
    rw [List.mem_filter] at hs
    have : has (l.filter fun s => actM l (acts ++ more) s b) s = true := has_iff.2 (List.mem_filter.2 ⟨hs.1, act_more hs.2⟩)
    simp [this]
  · rw [has_iff, List.mem_filter]
    refine ⟨has_iff.1 (forE_zero h1).2, ?_⟩
    exact clos_reach.2 (.refl _)

end Go.Proofs.YtfbieagkhbmgjaaDoor
