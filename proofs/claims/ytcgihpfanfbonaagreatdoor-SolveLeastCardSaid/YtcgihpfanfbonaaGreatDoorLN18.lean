/-
  sort.breakPatterns_func under a less that lays blocks (it calls swap alone): by the shelf's contract.
-/
import Derived.Test.YtcgihpfanfbonaaGreatDoorLN11
import Derived.Test.YtcgihpfanfbonaaGreatDoorShelfS
namespace Go.Proofs.YtcgihpfanfbonaaGreatDoor
open Go.RowKit Go.Sort
set_option linter.unusedVariables false
set_option linter.unusedSimpArgs false
section
variable {α : Type} [Inhabited α] {enc : α → Value} {lt : α → α → Bool} {g sf blk off size : Nat} {lb sb : Array Value} {w0 : World}
theorem sortWorld_grown (enc : α → Value) (w : World) (blk off m : Nat) (d : Array α) (os : Array Obj) : w.grownBy (sortWorld enc w blk off m d os) (some blk) := by
  refine ⟨rfl, rfl, rfl, ?_, fun k hk hne => ?_⟩
  · unfold sortWorld
    rw [size_grow, size_putRow]
    exact Nat.le_add_right _ _
  · have hne' : blk ≠ k := fun e => hne (by rw [e])
    unfold sortWorld
    rw [heap_grow_old _ _ (by rw [size_putRow]; exact hk)]
    simp [putRow, mapBlock, Array.getElem?_modify, hne']
theorem sortWorld_holds (enc : α → Value) {w : World} {blk off m : Nat} {d0 d : Array α} {os : Array Obj} (hb : blk < w.heap.size) (h : Holds enc w blk off d0) (hs : d.size = d0.size) : Holds enc (sortWorld enc w blk off m d os) blk off d := by
  unfold sortWorld
  exact holds_grow _ _ _ _ _ _ (by rw [size_putRow]; exact hb) (holds_putRow enc _ blk off d0 d (holds_ahead enc w m blk off d0 h) hs)
theorem breakF_calls (S : Sorter enc lt g lb sf sb w0 blk off size) (a b : Nat) (d : Array α) (W : World) (hA : RowAt enc w0 blk off size d W) (hab : a ≤ b) (hb : b ≤ size) (hs : (breakPatterns d a b).size = d.size) :
    Calls Tryz.prog 118 #[.agg #[.func (.func g) #[] lb, .func (.func sf) #[] sb], .int .i64 a, .int .i64 b] W fun e w' =>
      e = .returned (.tuple #[]) ∧ RowAt enc w0 blk off size (breakPatterns d a b) w' ∧ W.grownBy w' (some blk) := by
  have h := Any.breakPatterns_func_w (P := Tryz.prog) (ρ := Tryz.sl28_ren) Tryz.sl28 enc (.func g) #[] lb sf sb blk off a b d W (by rw [hA.size]; exact S.swap) hA.holds (hA.there S.low) hab (by rw [hA.size]; exact hb) (by rw [hA.size]; exact S.small)
  change Calls Tryz.prog 118 _ _ _ at h
  refine h.mono ?_
  rintro e w' ⟨rfl, n, os, rfl⟩
  have hg := sortWorld_grown enc W blk off n (breakPatterns d a b) os
  exact ⟨rfl, ⟨hs.trans hA.size, sortWorld_holds enc (hA.there S.low) hA.holds hs, grown_grown hA.grow hg⟩, hg⟩
end
end Go.Proofs.YtcgihpfanfbonaaGreatDoor
