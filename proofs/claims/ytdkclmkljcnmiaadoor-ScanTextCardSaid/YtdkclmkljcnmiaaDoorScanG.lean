/-
  slices.Equal over the same tokens; cloisterlaw.scanned (a closed fact).
-/
import Derived.Test.YtdkclmkljcnmiaaDoorScanE
import Derived.Test.YtdkclmkljcnmiaaDoorScanF
import Derived.Test.YtdkclmkljcnmiaaDoorEqS
namespace Go.Proofs.YtdkclmkljcnmiaaDoor
open Go.RowKit
set_option linter.unusedVariables false
set_option linter.unusedSimpArgs false

set_option maxHeartbeats 1000000 in
set_option maxRecDepth 100000 in
theorem equalTok_calls (l : List Tok) (v u : Value) (w : World) (hv : Toks w l v) (hu : Toks w l u) :
    Calls Tryd.prog 7 #[v, u] w fun e w' => e = .returned (.bool true) ∧ Below w.heap.size w w' := by
  obtain ⟨b, o, c, p, rfl, hlc, hc, hp, hcells⟩ := hv.cells
  obtain ⟨b2, o2, c2, p2, rfl, hlc2, hc2, hp2, hcells2⟩ := hu.cells
  clear hv hu
  have hn1 : ((l.length : Int) != (l.length : Int)) = false := by simp
  have hn2 : ((l.length : Int) == (l.length : Int)) = true := by simp
  go_enter Tryd.func7, Tryd.ntmps7
  go_wp2
  go_loopw [5, 13] (fun _ i wr => ∃ k : Nat, k ≤ l.length ∧ i = .int .i64 k ∧ (∃ n, wr = w.drewN n)) (fun _ i _ => l.length - (intOf i).toNat)
  case atStart => exact ⟨0, Nat.zero_le _, rfl, ⟨0, rfl⟩⟩
  case round =>
    obtain ⟨k, hk, rfl, ⟨n, rfl⟩⟩ := hrel
    by_cases hlt : k < l.length
    · obtain ⟨g1, g2, g3⟩ := hcells k hlt
      obtain ⟨g4, g5, g6⟩ := hcells2 k hlt
      obtain rfl := hp (by omega)
      obtain rfl := hp2 (by omega)
      clear hp hp2 hcells hcells2
      generalize l[k].1 = x1 at *
      generalize l[k].2.1 = x2 at *
      generalize l[k].2.2 = x3 at *
      go_wp2
      go_quiet (fail)
      go_wp2
      go_roundw
      case rel => exact ⟨k + 1, by omega, by go_num, ⟨n + nq, rfl⟩⟩
      case measure => simp [intOf]; omega
    · clear hp hp2 hcells hcells2
      go_wp2
      go_ret
      exact ⟨rfl, below_drewN (Below.refl _ _) n⟩

def xT : Txt := ⟨#[120]⟩
def leT : Txt := ⟨#[60, 61]⟩
def tenT : Txt := ⟨#[49, 48]⟩
def xText : Txt := ⟨#[120, 60, 61, 32, 49, 48]⟩
def xToks : List Tok := [(1, 0, xT), (4, 1, leT), (2, 4, tenT)]
theorem x_scan : scanOf xText = (xToks, 0, 0) := by decide +kernel
theorem x_join : joinE xToks = 0 ∧ joinS xToks = ⟨#[120, 32, 60, 61, 32, 49, 48]⟩ := by decide +kernel

set_option maxHeartbeats 1000000 in
set_option maxRecDepth 100000 in
theorem scanned_calls (w : World) : Calls Tryd.prog 6 #[] w fun e w' => e = .returned (.bool true) ∧ Below w.heap.size w w' := by
  go_enter Tryd.func6, Tryd.ntmps6
  go_wp2_with (fail)
  refine (scan_calls xText _).mono ?_
  rintro e w1 ⟨y, rfl, hy, hb1⟩
  rw [x_scan] at hy ⊢
  have HY := Lib.hid hy
  obtain ⟨b, o, c, p, rfl, hlc, hcm, hp, _⟩ := hy.cells
  obtain rfl := hp (by decide)
  have HB1 := Lib.hid hb1
  clear hy hb1
  have HK : Hid (∀ A t, Below w1.heap.size w1 (w1.alloc (.cells A t))) := fun A t => (Below.refl _ _).alloc (Nat.le_refl _) _
  go_wp2_with (fail)
  refine (join_tok_calls xToks _ _ (HY.out.stays (keeps_of_below (HK.out #[.int .i64 0, .int .i64 0] 25)))).mono ?_
  rintro e w2 ⟨rfl, hb2⟩
  rw [x_join.1, x_join.2]
  have hc0 : (w1.alloc (.cells #[.int .i64 0, .int .i64 0] 25)).cell? ⟨w1.heap.size, 0, none⟩ = some (.int .i64 0) := World.cell?_alloc_mark _ _ _ _ _
  have hc2 : w2.cell? ⟨w1.heap.size, 0, none⟩ = some (.int .i64 0) := (hb2.cell (cell_lt hc0)).trans hc0
  have HB12 : Hid (Below w1.heap.size w1 w2) := (HK.out _ _).trans (hb2.mono (HK.out _ _).size)
  clear hb2 hc0
  obtain ⟨W3, eW3⟩ : ∃ W3, w2.alloc (.cells #[.int .i64 1, .int .i64 0, .string ⟨#[120]⟩, .int .i64 4, .int .i64 1, .string ⟨#[60, 61]⟩, .int .i64 2, .int .i64 4, .string ⟨#[49, 48]⟩] 31) = W3 := ⟨_, rfl⟩
  obtain ⟨z3, hW3, m3⟩ := boxes1 eW3
  have HT : Hid (Toks W3 xToks (.slice (some ⟨w2.heap.size, 0, none⟩) 3 3)) := by
    refine ⟨_, _, rfl, by decide, by unfold maxLen; decide, Or.inr ⟨_, 0, rfl, fun i hi => ?_⟩⟩
    match i, hi with
    | 0, _ =>
      refine ⟨tokCells (1, 0, xT), ⟨[.int .i64 1], _, rfl, rfl, ⟨[.int .i64 0], _, rfl, rfl, rfl⟩⟩, rfl, fun j x hx => ?_⟩
      match j, hx with
      | 0, hx => simp [tokCells] at hx; subst hx; exact m3 0
      | 1, hx => simp [tokCells] at hx; subst hx; exact m3 1
      | 2, hx => simp [tokCells] at hx; subst hx; exact m3 2
    | 1, _ =>
      refine ⟨tokCells (4, 1, leT), ⟨[.int .i64 4], _, rfl, rfl, ⟨[.int .i64 1], _, rfl, rfl, rfl⟩⟩, rfl, fun j x hx => ?_⟩
      match j, hx with
      | 0, hx => simp [tokCells] at hx; subst hx; exact m3 3
      | 1, hx => simp [tokCells] at hx; subst hx; exact m3 4
      | 2, hx => simp [tokCells] at hx; subst hx; exact m3 5
    | 2, _ =>
      refine ⟨tokCells (2, 4, tenT), ⟨[.int .i64 2], _, rfl, rfl, ⟨[.int .i64 4], _, rfl, rfl, rfl⟩⟩, rfl, fun j x hx => ?_⟩
      match j, hx with
      | 0, hx => simp [tokCells] at hx; subst hx; exact m3 6
      | 1, hx => simp [tokCells] at hx; subst hx; exact m3 7
      | 2, hx => simp [tokCells] at hx; subst hx; exact m3 8
  have HW3 := Lib.hid hW3
  clear m3 z3 hW3
  go_wp2_with (fail)
  refine (equalTok_calls xToks _ _ _ (HY.out.stays (keeps_of_below (HB12.out.trans (HW3.out.mono HB12.out.size)))) HT.out).mono ?_
  rintro e w4 ⟨rfl, hb4⟩
  have HB14 : Hid (Below w1.heap.size w1 w4) := (HB12.out.trans (HW3.out.mono HB12.out.size)).trans (hb4.mono (HB12.out.trans (HW3.out.mono HB12.out.size)).size)
  clear hb4
  go_wp2
  go_ret
  exact ⟨rfl, HB1.out.trans (HB14.out.mono HB1.out.size)⟩
end Go.Proofs.YtdkclmkljcnmiaaDoor
