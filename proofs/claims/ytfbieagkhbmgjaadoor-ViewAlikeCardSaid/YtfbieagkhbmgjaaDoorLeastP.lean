/-
  Plain law of chief.Least: pairs in order, those right over another one.
-/
import Derived.Test.YtfbieagkhbmgjaaDoorChiefB
namespace Go.Proofs.YtfbieagkhbmgjaaDoor
set_option linter.unusedVariables false
set_option linter.unusedSimpArgs false

def overM (M : Nat → Nat → Bool) (i k : Nat) : Bool := i != k && M i k
def betwM (M : Nat → Nat → Bool) (i k j : Nat) : Bool := j != i && j != k && M i j && M j k
def coverM (M : Nat → Nat → Bool) (n i k : Nat) : Bool := overM M i k && !(List.range n).any (betwM M i k)
def badM (M : Nat → Nat → Bool) (i k : Nat) : Bool := overM M i k && M k i
/-- The pairs of numbers ahead of one, row by row. -/
def ahead (n i k : Nat) : List (Nat × Nat) := (List.range i).flatMap (fun a => (List.range n).map fun c => (a, c)) ++ (List.range k).map fun c => (i, c)
theorem ahead_zero (n : Nat) : ahead n 0 0 = [] := by simp [ahead]
theorem ahead_succ (n i k : Nat) : ahead n i (k + 1) = ahead n i k ++ [(i, k)] := by
  simp [ahead, List.range_succ]
theorem ahead_row (n i : Nat) : ahead n i n = ahead n (i + 1) 0 := by
  simp [ahead, List.range_succ]
theorem mem_ahead {n i k a c : Nat} : (a, c) ∈ ahead n i k ↔ (a < i ∧ c < n) ∨ (a = i ∧ c < k) := by
  simp only [ahead, List.mem_append, List.mem_flatMap, List.mem_range, List.mem_map, Prod.mk.injEq]
  constructor
  · rintro (⟨x, hx, y, hy, rfl, rfl⟩ | ⟨y, hy, rfl, rfl⟩)
    · exact .inl ⟨hx, hy⟩
    · exact .inr ⟨rfl, hy⟩
  · rintro (⟨h1, h2⟩ | ⟨rfl, h2⟩)
    · exact .inl ⟨a, h1, c, h2, rfl, rfl⟩
    · exact .inr ⟨c, h2, rfl, rfl⟩
def nameAt (l : List Txt) (i : Nat) : Txt := l.getD i ByteArray.empty
/-- The pairs that were told so far. -/
def leastTo (l : List Txt) (M : Nat → Nat → Bool) (i k : Nat) : List (Txt × Txt) := ((ahead l.length i k).filter fun x => coverM M l.length x.1 x.2).map fun x => (nameAt l x.1, nameAt l x.2)
theorem leastTo_hit {l : List Txt} {M : Nat → Nat → Bool} {i k : Nat} (h : coverM M l.length i k = true) : leastTo l M i (k + 1) = leastTo l M i k ++ [(nameAt l i, nameAt l k)] := by
  simp [leastTo, ahead_succ, List.filter_append, h]
theorem leastTo_miss {l : List Txt} {M : Nat → Nat → Bool} {i k : Nat} (h : coverM M l.length i k = false) : leastTo l M i (k + 1) = leastTo l M i k := by
  simp [leastTo, ahead_succ, List.filter_append, h]
theorem leastTo_le (l : List Txt) (M : Nat → Nat → Bool) (i k : Nat) (hi : i ≤ l.length) (hk : k ≤ l.length) : (leastTo l M i k).length ≤ l.length * l.length + l.length := by
  unfold leastTo
  rw [List.length_map]
  refine Nat.le_trans (List.length_filter_le _ _) ?_
  simp only [ahead, List.length_append, List.length_flatMap, List.length_map, List.length_range]
  have : ((List.range i).map fun _ => l.length).sum = i * l.length := by simp [List.map_const', List.sum_replicate_nat]
  rw [this]
  have := Nat.mul_le_mul_right l.length hi
  omega
/-- Is somebody over one who is over them? -/
def ringM (l : List Txt) (M : Nat → Nat → Bool) : Bool := (ahead l.length l.length 0).any fun x => badM M x.1 x.2
def leastE (l : List Txt) (acts : List (Txt × Txt)) : Int := if checkC l acts ≠ 0 then checkC l acts else if ringM l (closM l acts) then 4 else 0
def leastR (l : List Txt) (acts : List (Txt × Txt)) : List (Txt × Txt) := if leastE l acts = 0 then leastTo l (closM l acts) l.length 0 else []
end Go.Proofs.YtfbieagkhbmgjaaDoor
