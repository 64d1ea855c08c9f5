/-
  cloisterlaw.Names: each constant has its value.
-/
import Derived.Test.YtianpbfieldngaaEqI
namespace Go.Proofs.Ytianpbfieldngaa
open Go.RowKit
set_option linter.unusedVariables false
set_option linter.unusedSimpArgs false

theorem one_new {α : Type} (f : α → Value) (w : World) (l : List α) (e : TypeId) (hl : l.length ≤ 9223372036854775807) : SliceOf (One f) 1 (w.alloc (.cells (l.map f).toArray e)) l (.slice (some ⟨w.heap.size, 0, none⟩) l.length l.length) := by
  refine ⟨_, _, rfl, Nat.le_refl _, by unfold maxLen; omega, Or.inr ⟨_, _, rfl, fun i h => ⟨_, rfl, rfl, fun j x hx => ?_⟩⟩⟩
  rw [World.cell?_alloc_mark]
  match j, hx with
  | 0, hx =>
    simp at hx
    subst hx
    simp [h]
def objI (l : List Int) (e : TypeId) : Obj := .cells (l.map (Value.int .i64)).toArray e
def errsL : List Int := [0, 1, 2, 3, 4, 5, 6, 7, 8, 9]
def limitsL : List Int := [4000, 600, 12, 12, 6, 10, 200, 6, 6, 4, 20, 3000, 30, 60, 400]
def kindsL : List Int := [1, 2, 3, 4, 0, 1, 2, 1, 2, 3, 4, 5, 1, 2, 3, 4, 5, 6, 7, 8]

set_option maxHeartbeats 1000000 in
theorem names_calls (w : World) :
    Calls Try.prog 3 #[] w fun e w' => e = .returned (.bool true) ∧ Below w.heap.size w w' := by
  go_enter Try.func3, Try.ntmps3
  go_wp2
  generalize hW : w.alloc (.cells #[.int .i64 0, .int .i64 1, .int .i64 2, .int .i64 3, .int .i64 4, .int .i64 5, .int .i64 6, .int .i64 7, .int .i64 8, .int .i64 9] 22) = w1
  have hsz : w1.heap.size = w.heap.size + 1 := by rw [← hW]; simp
  have hcell : ∀ k : Nat, k < 10 → w1.cell? ⟨w.heap.size, k, none⟩ = some (.int .i64 k) := fun k hk => by
    rw [← hW, World.cell?_alloc_mark]
    match k, hk with
    | 0, _ => rfl
    | 1, _ => rfl
    | 2, _ => rfl
    | 3, _ => rfl
    | 4, _ => rfl
    | 5, _ => rfl
    | 6, _ => rfl
    | 7, _ => rfl
    | 8, _ => rfl
    | 9, _ => rfl
  have hb : Below w.heap.size w w1 := by rw [← hW]; exact (Below.refl _ _).alloc (Nat.le_refl _) _
  clear hW
  have HS := Lib.hid hsz
  have HC := Lib.hid hcell
  clear hsz hcell
  go_loop [2, 3, 9] (fun _ _ i => ∃ k : Nat, k ≤ 10 ∧ i = .int .i64 k) (fun _ _ i => 10 - (intOf i).toNat)
  case atStart => exact ⟨0, Nat.zero_le _, rfl⟩
  case round =>
    obtain ⟨k, hk, rfl⟩ := hrel
    by_cases hlt : k < 10
    · have hcell := HC.out k hlt
      go_wp2
      go_round
      case rel => exact ⟨k + 1, by omega, by go_num⟩
      case measure => simp [intOf]; omega
    · obtain rfl : k = 10 := by omega
      clear HC HS
      have eA : Obj.cells #[.int .i64 4000, .int .i64 600, .int .i64 12, .int .i64 12, .int .i64 6, .int .i64 10, .int .i64 200, .int .i64 6, .int .i64 6, .int .i64 4, .int .i64 20, .int .i64 3000, .int .i64 30, .int .i64 60, .int .i64 400] 3 = objI limitsL 3 := rfl
      have eB : Obj.cells #[.int .i64 1, .int .i64 2, .int .i64 3, .int .i64 4, .int .i64 0, .int .i64 1, .int .i64 2, .int .i64 1, .int .i64 2, .int .i64 3, .int .i64 4, .int .i64 5, .int .i64 1, .int .i64 2, .int .i64 3, .int .i64 4, .int .i64 5, .int .i64 6, .int .i64 7, .int .i64 8] 3 = objI kindsL 3 := rfl
      have hA : ∀ (w : World) n, w.heap.size = n → Nums (w.alloc (objI limitsL 3)) limitsL (.slice (some ⟨n, 0, none⟩) 15 15) := fun w n hn => hn ▸ one_new (Value.int .i64) w limitsL 3 (by decide)
      have hB : ∀ (w : World) n, w.heap.size = n → Nums (w.alloc (objI kindsL 3)) kindsL (.slice (some ⟨n, 0, none⟩) 20 20) := fun w n hn => hn ▸ one_new (Value.int .i64) w kindsL 3 (by decide)
      have HA := Lib.hid hA
      have HB := Lib.hid hB
      clear hA hB
      go_wp2_with (fail)
      refine (equalI_calls limitsL limitsL _ _ _ (Nums.stays (keeps_of_below (((Below.refl _ _).alloc (Nat.le_refl _) _).alloc (by simp) _)) (HA.out w1 _ rfl)) (HA.out _ _ (by simp))).mono ?_
      rintro e w2 ⟨rfl, n, rfl⟩
      have e1 : (limitsL == limitsL) = true := by decide
      rw [e1]
      go_wp2_with (fail)
      refine (equalI_calls kindsL kindsL _ _ _ (Nums.stays (keeps_of_below (below_drewN ((Below.refl _ _).alloc (Nat.le_refl _) _) n |>.alloc (by simp) _)) (HB.out _ _ (by simp))) (HB.out _ _ (by simp))).mono ?_
      rintro e w2 ⟨rfl, n2, rfl⟩
      have e2 : (kindsL == kindsL) = true := by decide
      rw [e2]
      go_wp2
      go_ret
      exact ⟨rfl, below_drewN ((below_drewN (((hb.alloc hb.size _).alloc (by have := hb.size; simp; omega) _).alloc (by have := hb.size; simp; omega) _) n).alloc (by have := hb.size; simp; omega) _) n2⟩
end Go.Proofs.Ytianpbfieldngaa
