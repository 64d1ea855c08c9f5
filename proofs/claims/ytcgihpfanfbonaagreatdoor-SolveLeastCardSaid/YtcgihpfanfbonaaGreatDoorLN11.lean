/-
  sort.Slice's family under a less that lays blocks: what is told of the row, of less, of swap; insertionSort_func.
-/
import Derived.Test.YtcgihpfanfbonaaGreatDoorLN04
import Derived.Shelf.GgSortFunc.Insertion
import Derived.Sort.WalkA
import Derived.ChangeAlike
namespace Go.Proofs.YtcgihpfanfbonaaGreatDoor
open Go.RowKit Go.Sort
set_option linter.unusedVariables false
set_option linter.unusedSimpArgs false
section
variable {α : Type} [Inhabited α]

/-- The row holds d; of the base nothing else has turned. -/
structure RowAt (enc : α → Value) (w0 : World) (blk off size : Nat) (d : Array α) (W : World) : Prop where
  size : d.size = size
  holds : Holds enc W blk off d
  grow : w0.grownBy W (some blk)
/-- What is told of less (it may draw and lay blocks), of swap, of the row. -/
structure Sorter (enc : α → Value) (lt : α → α → Bool) (g : Nat) (lb : Array Value) (sf : Nat) (sb : Array Value) (w0 : World) (blk off size : Nat) : Prop where
  eg : ∀ args w, (callFunc g args).run Tryz.prog w = .ok (.enter g args) w
  less : ∀ (W : World) (d : Array α), RowAt enc w0 blk off size d W → ∀ i j : Nat, i < size → j < size → Calls Tryz.prog g (#[.int .i64 i, .int .i64 j] ++ lb) W fun e w' => e = .returned (.bool (lt d[i]! d[j]!)) ∧ Below W.heap.size W w'
  swap : SwapSwaps Tryz.prog sf sb enc blk off size
  low : blk < w0.heap.size
  small : size < 4611686018427387904
variable {enc : α → Value} {lt : α → α → Bool} {g sf blk off size : Nat} {lb sb : Array Value} {w0 : World} {d : Array α} {W V : World}
theorem RowAt.there (h : RowAt enc w0 blk off size d W) (hb : blk < w0.heap.size) : blk < W.heap.size := Nat.lt_of_lt_of_le hb h.grow.size
theorem RowAt.below (h : RowAt enc w0 blk off size d W) (hl : blk < w0.heap.size) (hb : Below W.heap.size W V) : RowAt enc w0 blk off size d V :=
  ⟨h.size, fun j hj => ⟨(hb.cell (p := ⟨blk, off + j, none⟩) (h.there hl)).trans (h.holds j hj).1, (hb.frozen (p := ⟨blk, off + j, none⟩) (h.there hl)).trans (h.holds j hj).2⟩, grown_below h.grow hb⟩
theorem RowAt.other (h : RowAt enc w0 blk off size d W) (hl : blk < w0.heap.size) {c : Nat} (hg : W.grownBy V (some c)) (hc : w0.heap.size ≤ c) : RowAt enc w0 blk off size d V :=
  ⟨h.size, fun j hj => ⟨grown_cell hg (h.holds j hj).1 (fun e => by cases e; omega), (grown_frozen hg (h.there hl) (fun e => by cases e; omega)).trans (h.holds j hj).2⟩,
    ⟨hg.os.trans h.grow.os, hg.tape.trans h.grow.tape, hg.output.trans h.grow.output, Nat.le_trans h.grow.size hg.size, fun k hk hne => (hg.block k (Nat.lt_of_lt_of_le hk h.grow.size) (fun e => by cases e; omega)).trans (h.grow.block k hk hne)⟩⟩
theorem RowAt.cells (h : RowAt enc w0 blk off size d W) (i : Nat) (hi : i < size) : W.cell? ⟨blk, off + i, none⟩ = some (enc d[i]!) := (h.holds i (by rw [h.size]; exact hi)).1
theorem grown_setCellS (w : World) (a : Addr) (u : Value) : w.grownBy (w.setCell a u) (some a.block) :=
  ⟨rfl, rfl, rfl, by simp [World.setCell], fun k _ hne => Below.heap_setCell _ _ _ _ (fun e => hne (by rw [e]))⟩
theorem getSwp (d : Array α) (i j k : Nat) (hi : i < d.size) (hj : j < d.size) : (swp d i j)[k]! = if k = j then d[i]! else if k = i then d[j]! else d[k]! := by
  unfold swp
  by_cases h1 : k = j
  · subst h1
    rw [if_pos rfl, getElem!_set_same _ _ _ (by simpa using hj)]
  · rw [if_neg h1, getElem!_set_other _ _ _ _ h1]
    by_cases h2 : k = i
    · subst h2
      rw [if_pos rfl, getElem!_set_same _ _ _ hi]
    · rw [if_neg h2, getElem!_set_other _ _ _ _ h2]
theorem RowAt.swapped (h : RowAt enc w0 blk off size d W) (i j : Nat) (hi : i < size) (hj : j < size) :
    RowAt enc w0 blk off size (swp d i j) ((W.setCell ⟨blk, off + i, none⟩ (enc d[j]!)).setCell ⟨blk, off + j, none⟩ (enc d[i]!)) := by
  have hi' : i < d.size := by rw [h.size]; exact hi
  have hj' : j < d.size := by rw [h.size]; exact hj
  refine ⟨by rw [size_swp]; exact h.size, fun k hk => ?_, grown_grown (grown_grown h.grow (grown_setCellS _ _ _)) (grown_setCellS _ _ _)⟩
  rw [size_swp] at hk
  have hc := (h.holds k hk).1
  constructor
  · rw [getSwp _ _ _ _ hi' hj']
    by_cases h1 : k = j
    · subst h1
      rw [if_pos rfl]
      by_cases h2 : i = k
      · subst h2
        exact World.cell?_setCell_same _ _ _ (World.cell?_setCell_same _ _ _ hc)
      · exact World.cell?_setCell_same _ _ _ ((World.cell?_setCell_other _ _ _ _ (by intro e; simp only [Addr.mk.injEq] at e; omega)).trans hc)
    · rw [if_neg h1]
      refine (World.cell?_setCell_other _ _ _ _ (by intro e; simp only [Addr.mk.injEq] at e; omega)).trans ?_
      by_cases h2 : k = i
      · subst h2
        rw [if_pos rfl]
        exact World.cell?_setCell_same _ _ _ hc
      · rw [if_neg h2]
        exact (World.cell?_setCell_other _ _ _ _ (by intro e; simp only [Addr.mk.injEq] at e; omega)).trans hc
  · rw [World.frozen?_setCell, World.frozen?_setCell]
    exact (h.holds k hk).2
end

section
variable {α : Type} [Inhabited α] {enc : α → Value} {lt : α → α → Bool} {g sf blk off size : Nat} {lb sb : Array Value} {w0 : World}
/-- A box new against the base, behind what the family does. -/
theorem box_grown {W1 wo : World} {b o : Nat} {v : Value} (h : W1.grownBy wo (some blk)) (hc : W1.cell? ⟨b, o, none⟩ = some v) (hne : b ≠ blk) : wo.cell? ⟨b, o, none⟩ = some v :=
  grown_cell h hc (fun e => hne (by cases e; rfl))

set_option maxHeartbeats 2000000 in
set_option maxRecDepth 100000 in
theorem insF_calls (S : Sorter enc lt g lb sf sb w0 blk off size) (a b : Nat) (d : Array α) (W : World) (hA : RowAt enc w0 blk off size d W) (hab : a ≤ b) (hb : b ≤ size) :
    Calls Tryz.prog 116 #[.agg #[.func (.func g) #[] lb, .func (.func sf) #[] sb], .int .i64 a, .int .i64 b] W fun e w' =>
      e = .returned (.tuple #[]) ∧ RowAt enc w0 blk off size (Sort.insertionSort lt d a b) w' ∧ W.grownBy w' (some blk) := by
  obtain ⟨W1, eW⟩ : ∃ W1, W.alloc (.cells #[.func (.func g) #[] lb, .func (.func sf) #[] sb] 130) = W1 := ⟨_, rfl⟩
  obtain ⟨z1, hW, m1⟩ := boxes1 eW
  have c0 := m1 0
  have c1 := m1 1
  simp only [List.getElem?_toArray, List.getElem?_cons_zero, List.getElem?_cons_succ] at c0 c1
  have hbk : blk < W.heap.size := hA.there S.low
  have HA1 : Hid (RowAt enc w0 blk off size d W1) := hA.below S.low hW
  have HG1 : Hid (W.grownBy W1 (some blk)) := grown_below (World.grownBy.refl _ _) hW
  have HNE : Hid (W.heap.size ≠ blk) := by unfold Hid; omega
  have HS := Lib.hid S
  have hsm := S.small
  have eg := S.eg
  have HC0 := Lib.hid c0
  have HC1 := Lib.hid c1
  clear m1 z1 hW c0 c1 S hA
  go_enter Tryz.func116, Tryz.ntmps116
  go_wp2
  go_loopw [6] (fun vi wr => ∃ (i : Nat) (dk : Array α) (wo : World), vi = .int .i64 i ∧ wo = wr ∧ a < i ∧ i ≤ b + 1 ∧ Hid (RowAt enc w0 blk off size dk wo) ∧ Hid (W1.grownBy wo (some blk)) ∧ Hid (insOuter lt a b i dk = insOuter lt a b (a + 1) d)) (fun vi _ => b + 1 - (intOf vi).toNat)
  case atStart => exact ⟨a + 1, d, _, by go_num, rfl, by omega, by omega, HA1, World.grownBy.refl _ _, rfl⟩
  case round =>
    obtain ⟨i, dk, wo, rfl, rfl, hai, hib, HA, HG, HO⟩ := hrel
    by_cases hlt : i < b
    · have hlti : (i : Int) < (b : Int) := by omega
      go_wp2
      go_loopw [7] (fun vj wr2 => ∃ (j : Nat) (dj : Array α) (wi : World), vj = .int .i64 j ∧ wi = wr2 ∧ a ≤ j ∧ j ≤ i ∧ Hid (RowAt enc w0 blk off size dj wi) ∧ Hid (W1.grownBy wi (some blk)) ∧ Hid (insInner lt a j dj = insInner lt a i dk)) (fun vj _ => (intOf vj).toNat)
      case atStart => exact ⟨i, dk, _, rfl, rfl, by omega, Nat.le_refl _, HA, HG, rfl⟩
      case round =>
        obtain ⟨j, dj, wi, rfl, rfl, haj, hji, HAJ, HGJ, HI⟩ := hrel
        have OUT : (j ≤ a ∨ lt dj[j]! dj[j - 1]! = false) → insOuter lt a b (i + 1) dj = insOuter lt a b (a + 1) d := fun hs => by
          rw [← HO.out, insOuter_go _ _ _ _ _ hlt, ← HI.out, insInner_stop _ _ _ _ hs]
        by_cases hja : a < j
        · have hjai : (a : Int) < (j : Int) := by omega
          have e0 := box_grown HGJ.out HC0.out HNE.out
          have hl := HS.out.less _ _ HAJ.out j (j - 1) (by omega) (by omega)
          rw [show (((j - 1 : Nat) : Int)) = (j : Int) - 1 by omega] at hl
          cases hlv : lt dj[j]! dj[j - 1]! with
          | true =>
            rw [hlv] at hl
            have HL := Lib.hid hl
            have HV := Lib.hid hlv
            clear hl hlv OUT
            go_wp2_with (fail)
            refine HL.out.mono ?_
            rintro e w2 ⟨rfl, hb2⟩
            have HA2 : Hid (RowAt enc w0 blk off size dj w2) := HAJ.out.below HS.out.low hb2
            have HG2 : Hid (W1.grownBy w2 (some blk)) := grown_below HGJ.out hb2
            have e1 := box_grown HG2.out HC1.out HNE.out
            clear hb2 e0
            have hs := HS.out.swap w2 dj HA2.out.holds HA2.out.size j (j - 1) (by omega) (by omega)
            rw [show (((j - 1 : Nat) : Int)) = (j : Int) - 1 by omega] at hs
            obtain ⟨w3, ew3⟩ : ∃ w3, (w2.setCell ⟨blk, off + j, none⟩ (enc dj[j - 1]!)).setCell ⟨blk, off + (j - 1), none⟩ (enc dj[j]!) = w3 := ⟨_, rfl⟩
            have HA3 : Hid (RowAt enc w0 blk off size (swp dj j (j - 1)) w3) := by rw [← ew3]; exact HA2.out.swapped j (j - 1) (by omega) (by omega)
            have HG3 : Hid (W1.grownBy w3 (some blk)) := by rw [← ew3]; exact grown_grown (grown_grown HG2.out (grown_setCellS _ _ _)) (grown_setCellS _ _ _)
            rw [ew3] at hs
            have HSW := Lib.hid hs
            clear hs ew3
            go_wp2
            rw [HSW.out, Oper.upon_value]
            go_wp2
            go_roundw
            case rel => exact ⟨j - 1, swp dj j (j - 1), _, by congr 1; omega, rfl, by omega, by omega, HA3, HG3, by rw [Hid, ← HI.out, insInner_go lt a j dj hja HV.out]⟩
            case measure => simp [intOf]; omega
          | false =>
            rw [hlv] at hl
            have HL := Lib.hid hl
            have HX : Hid (insOuter lt a b (i + 1) dj = insOuter lt a b (a + 1) d) := OUT (Or.inr hlv)
            clear hl hlv OUT
            go_wp2_with (fail)
            refine HL.out.mono ?_
            rintro e w2 ⟨rfl, hb2⟩
            have HA2 : Hid (RowAt enc w0 blk off size dj w2) := HAJ.out.below HS.out.low hb2
            have HG2 : Hid (W1.grownBy w2 (some blk)) := grown_below HGJ.out hb2
            clear hb2
            go_wp2
            go_roundw
            case rel => exact ⟨i + 1, dj, _, by go_num, rfl, by omega, by omega, HA2, HG2, HX⟩
            case measure => simp [intOf]; omega
        · have hjai : ¬ (a : Int) < (j : Int) := by omega
          have HX : Hid (insOuter lt a b (i + 1) dj = insOuter lt a b (a + 1) d) := OUT (Or.inl (by omega))
          clear OUT
          go_wp2
          go_roundw
          case rel => exact ⟨i + 1, dj, _, by go_num, rfl, by omega, by omega, HAJ, HGJ, HX⟩
          case measure => simp [intOf]; omega
    · have hlti : ¬ (i : Int) < (b : Int) := by omega
      go_wp2
      go_end0
      refine ⟨rfl, ?_, grown_grown HG1.out HG.out⟩
      have e : Sort.insertionSort lt d a b = dk := by unfold Sort.insertionSort; rw [← HO.out, insOuter_stop _ _ _ _ _ hlt]
      rw [e]
      exact HA.out
end
end Go.Proofs.YtcgihpfanfbonaaGreatDoor
