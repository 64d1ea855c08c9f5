/-
  A region that draws its order, whose first operations leave the world as it is, walked once by the cheap steps; then its last ones, in their order.
-/
import Derived.StillTailTactics
import Derived.Deep.QuietTactic
import Derived.BigQuiet
import Derived.WalkKit
namespace Go.Proofs.Ytianpbfieldngaa
open Go.RowKit
section
variable {P : Program} {ops : Array Oper} {w : World}
theorem still_of_quiet {o : Oper} {a : Act} {K : Act → Prop} (h : o.quiet P a (fun w' => w' = w) K) : o.still P a w K := by
  obtain ⟨v, h1, h2⟩ := h
  have h3 := h1 w rfl
  unfold Oper.quietAt at h3
  unfold Oper.still
  generalize (execOp a.eval o).run P w = r at h3 ⊢
  unfold Oper.quietUpon at h3
  unfold Oper.stillUpon
  split at h3
  · obtain ⟨rfl, rfl⟩ := h3
    exact ⟨rfl, h2⟩
  · obtain ⟨rfl, rfl⟩ := h3
    exact ⟨rfl, h2⟩
  · obtain ⟨rfl, h4⟩ := h3
    exact ⟨rfl, v, h4, h2⟩
  · exact h3.elim
theorem wpStill_of_quiet {Q : Act → Prop} : ∀ (l : List Oper) (a : Act), wpQuiet P ops (fun w' => w' = w) Q l a → wpStill P ops w Q l a
  | [], _, h => h
  | o :: l, a, h => by
    unfold wpQuiet at h
    unfold wpStill
    split
    · rename_i hw
      rw [if_pos hw] at h
      exact Oper.still_mono (fun a' h' => wpStill_of_quiet l a' h') (still_of_quiet h)
    · rename_i hw
      rw [if_neg hw] at h
      exact wpStill_of_quiet l _ h
theorem wp_region_calm_tail {id : Nat} {Q : Exit → Act → World → Prop} {a : Act} {l : List Oper} (n : Nat) (hm : P.follows .mixedOrders = true) (hB : Region.lexTailB .any l.toArray n = true)
    (h : wpQuiet P l.toArray (fun w' => w' = w.drew) (fun a' => wpList P l.toArray Q (l.drop n) a' w.drew) (l.take n) a) : (Code.region id l.toArray true).wp P Q a w :=
  wp_region_still_tail n hm hB (wpStill_of_quiet _ _ h)
end
end Go.Proofs.Ytianpbfieldngaa
