/-
  cloisterlaw.ScanText: the walk.
-/
import Derived.Test.YtdkclmkljcnmiaaDoorTokens
import Derived.Test.YtdkclmkljcnmiaaDoorScanG
import Derived.Test.YtdkclmkljcnmiaaDoorScanB
import Derived.Test.YtdkclmkljcnmiaaDoorRefN
namespace Go.Proofs.YtdkclmkljcnmiaaDoor
open Go.RowKit
set_option linter.unusedVariables false
set_option linter.unusedSimpArgs false

structure TwoBox (W : World) (g : Nat) (a c : Value) : Prop where
  lt : g < W.heap.size
  c0 : W.cell? ⟨g, 0, none⟩ = some a
  c1 : W.cell? ⟨g, 1, none⟩ = some c
  f0 : W.frozen? ⟨g, 0, none⟩ = false
  f1 : W.frozen? ⟨g, 1, none⟩ = false
theorem TwoBox.new (W : World) (t : TypeId) (a c : Value) : TwoBox (W.alloc (.cells #[a, c] t)) W.heap.size a c := by
  obtain ⟨z1, h1, m1⟩ := boxes1 (rfl : W.alloc (.cells #[a, c] t) = _)
  exact ⟨by omega, m1 0, m1 1, World.frozen?_alloc_at _ _ _ _ rfl, World.frozen?_alloc_at _ _ _ _ rfl⟩
theorem TwoBox.below {W V : World} {g : Nat} {a c : Value} (h : TwoBox W g a c) (hb : Below W.heap.size W V) : TwoBox V g a c :=
  ⟨Nat.lt_of_lt_of_le h.lt hb.size, (hb.cell (p := ⟨g, 0, none⟩) h.lt).trans h.c0, (hb.cell (p := ⟨g, 1, none⟩) h.lt).trans h.c1, (hb.frozen (p := ⟨g, 0, none⟩) h.lt).trans h.f0, (hb.frozen (p := ⟨g, 1, none⟩) h.lt).trans h.f1⟩
theorem TwoBox.set {W : World} {g : Nat} {a c : Value} (h : TwoBox W g a c) (x y : Value) : TwoBox ((W.setCell ⟨g, 0, none⟩ x).setCell ⟨g, 1, none⟩ y) g x y := by
  obtain ⟨g0, g1⟩ := fault_cells h.c0 h.c1 x y
  exact ⟨by have := h.lt; simpa using this, g0, g1, by rw [World.frozen?_setCell, World.frozen?_setCell]; exact h.f0, by rw [World.frozen?_setCell, World.frozen?_setCell]; exact h.f1⟩

set_option maxHeartbeats 4000000 in
set_option maxRecDepth 100000 in
theorem scanText_calls (s n : Txt) (mx : Int) (w : World) (hn : n.size ≤ 9223372036854775000) (hm : w.cell? ⟨2, 0, none⟩ = some (.int .i64 mx)) (htab : Lib.TabIs Tryd.prog w "strings.asciiSpace" .u8 Lib.asciiSpaceTab) :
    Calls Tryd.prog 3 #[.string s, .string n] w fun e w' => e = .returned (.bool true) ∧ Below w.heap.size w w' := by
  have HMW : Hid (∀ W, Below w.heap.size w W → W.cell? ⟨2, 0, none⟩ = some (.int .i64 mx)) := fun W h => (h.cell (cell_lt hm)).trans hm
  have HTW : Hid (∀ W, Below w.heap.size w W → Lib.TabIs Tryd.prog W "strings.asciiSpace" .u8 Lib.asciiSpaceTab) := fun W h => tab_below htab h
  have HNS := Lib.hid hn
  clear hm htab hn
  go_enter Tryd.func3, Tryd.ntmps3
  go_wp2_with (fail)
  refine (scan_calls s _).mono ?_
  rintro e w1 ⟨y, rfl, hy, hb1⟩
  obtain ⟨L, hL⟩ : ∃ L, (scanOf s).1 = L := ⟨_, rfl⟩
  obtain ⟨A, hA⟩ : ∃ A : Int, (scanOf s).2.1 = A := ⟨_, rfl⟩
  obtain ⟨C, hC⟩ : ∃ C : Int, (scanOf s).2.2 = C := ⟨_, rfl⟩
  have HLA := Lib.hid hL
  have HAA := Lib.hid hA
  have HCA := Lib.hid hC
  rw [hL] at hy
  rw [hA, hC]
  clear hL hA hC
  obtain ⟨W2, eW2⟩ : ∃ W2, w1.alloc (.cells #[.int .i64 0, .int .i64 0] 25) = W2 := ⟨_, rfl⟩
  have HT2 : Hid (TwoBox W2 w1.heap.size (.int .i64 0) (.int .i64 0)) := by rw [← eW2]; exact TwoBox.new _ _ _ _
  obtain ⟨W3, eW3⟩ : ∃ W3, (W2.setCell ⟨w1.heap.size, 0, none⟩ (.int .i64 A)).setCell ⟨w1.heap.size, 1, none⟩ (.int .i64 C) = W3 := ⟨_, rfl⟩
  have HT3 : Hid (TwoBox W3 w1.heap.size (.int .i64 A) (.int .i64 C)) := by rw [← eW3]; exact HT2.out.set _ _
  have HB13 : Hid (Below w1.heap.size w1 W3) := by rw [← eW3, ← eW2]; exact (((Below.refl _ _).alloc (Nat.le_refl _) _).setCell (Nat.le_refl _) _).setCell (Nat.le_refl _) _
  have HB3 : Hid (Below w.heap.size w W3) := hb1.trans (HB13.out.mono hb1.size)
  have HY3 : Hid (Toks W3 L y) := hy.stays (keeps_of_below HB13.out)
  have c0 := HT2.out.c0
  have c1 := HT2.out.c1
  have f0 := HT2.out.f0
  have f1 := HT2.out.f1
  clear hy hb1
  go_wp2_with (fail)
  refine (tokens_calls s mx _ (HMW.out _ HB3.out) (HTW.out _ HB3.out)).mono ?_
  rintro e w4 ⟨z, rfl, hz, hb4⟩
  rw [HLA.out] at hz
  rw [HAA.out, HCA.out]
  have HT4 : Hid (TwoBox w4 w1.heap.size (.int .i64 A) (.int .i64 C)) := HT3.out.below hb4
  have HB4 : Hid (Below w.heap.size w w4) := HB3.out.trans (hb4.mono HB3.out.size)
  have HY4 : Hid (Toks w4 L y) := HY3.out.stays (keeps_of_below hb4)
  obtain ⟨W5, eW5⟩ : ∃ W5, w4.alloc (.cells #[.int .i64 0, .int .i64 0] 25) = W5 := ⟨_, rfl⟩
  have HT5 : Hid (TwoBox W5 w4.heap.size (.int .i64 0) (.int .i64 0)) := by rw [← eW5]; exact TwoBox.new _ _ _ _
  obtain ⟨W6, eW6⟩ : ∃ W6, (W5.setCell ⟨w4.heap.size, 0, none⟩ (.int .i64 A)).setCell ⟨w4.heap.size, 1, none⟩ (.int .i64 C) = W6 := ⟨_, rfl⟩
  have HU6 : Hid (TwoBox W6 w4.heap.size (.int .i64 A) (.int .i64 C)) := by rw [← eW6]; exact HT5.out.set _ _
  have HB46 : Hid (Below w4.heap.size w4 W6) := by rw [← eW6, ← eW5]; exact (((Below.refl _ _).alloc (Nat.le_refl _) _).setCell (Nat.le_refl _) _).setCell (Nat.le_refl _) _
  have HB6 : Hid (Below w.heap.size w W6) := HB4.out.trans (HB46.out.mono HB4.out.size)
  have HY6 : Hid (Toks W6 L y) := HY4.out.stays (keeps_of_below HB46.out)
  have HZ6 : Hid (Toks W6 L z) := hz.stays (keeps_of_below HB46.out)
  have HT6 : Hid (TwoBox W6 w1.heap.size (.int .i64 A) (.int .i64 C)) := HT4.out.below HB46.out
  clear hz hb4 c0 c1 f0 f1 eW2 eW3
  have c0 := HT5.out.c0
  have c1 := HT5.out.c1
  have f0 := HT5.out.f0
  have f1 := HT5.out.f1
  go_wp2_with (fail)
  refine (scanned_calls _).mono ?_
  rintro e w7 ⟨rfl, hb7⟩
  have HT7 := HT6.out.below hb7
  have HU7 := HU6.out.below hb7
  have HB7 : Hid (Below w.heap.size w w7) := HB6.out.trans (hb7.mono HB6.out.size)
  have HY7 : Hid (Toks w7 L y) := HY6.out.stays (keeps_of_below hb7)
  have HZ7 : Hid (Toks w7 L z) := HZ6.out.stays (keeps_of_below hb7)
  clear hb7 c0 c1 f0 f1 eW5 eW6
  have c0 := HT7.c0
  have c1 := HT7.c1
  have d0 := HU7.c0
  have d1 := HU7.c1
  go_wp2_with (fail)
  refine (equalTok_calls L _ _ _ HY7.out HZ7.out).mono ?_
  rintro e w8 ⟨rfl, hb8⟩
  have HB8 : Hid (Below w.heap.size w w8) := HB7.out.trans (hb8.mono HB7.out.size)
  clear hb8
  go_wp2_with (fail)
  refine (word_calls n _).mono ?_
  rintro e w9 ⟨rfl, hb9⟩
  have HB9 : Hid (Below w.heap.size w w9) := HB8.out.trans (hb9.mono HB8.out.size)
  clear hb9
  go_wp2_with (fail)
  refine (refWord_calls n mx _ HNS.out (HMW.out _ HB9.out)).mono ?_
  rintro e wx ⟨rfl, hwx⟩
  obtain rfl := hwx.symm
  go_wp2_with (fail)
  refine (name_calls n _).mono ?_
  rintro e w11 ⟨rfl, hb11⟩
  have HB11 : Hid (Below w.heap.size w w11) := HB9.out.trans (hb11.mono HB9.out.size)
  clear hb11
  go_wp2_with (fail)
  refine (refName_calls n mx _ (by have := HNS.out; unfold okTxt; omega) (HMW.out _ HB11.out)).mono ?_
  rintro e w12 ⟨rfl, hb12⟩
  have HB12 : Hid (Below w.heap.size w w12) := HB11.out.trans (hb12.mono HB11.out.size)
  clear hb12
  go_wp2
  go_ret
  exact ⟨rfl, HB12.out⟩
end Go.Proofs.YtdkclmkljcnmiaaDoor
