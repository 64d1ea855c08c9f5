/-
  slices.Grow and Concat over pairs of texts.
-/
import Derived.Test.YtcobgbkoeehdnaaApp
import Derived.Test.YtcobgbkoeehdnaaScanA
namespace Go.Proofs.Ytcobgbkoeehdnaa
open Go.RowKit
set_option linter.unusedVariables false
set_option linter.unusedSimpArgs false

theorem Try.info_pairC : (Try.prog.info? 44).map (fun i => (i.zero, i.size, i.bytes)) = some (some (.agg #[.string ByteArray.empty, .string ByteArray.empty]), 2, 32) := by kernel_rfl
theorem prs_free : Free (Both txt txt) := Both.free (One.free _) (One.free _)
theorem prs_plain : Plain (Both txt txt) := Both.plain txt_plain txt_plain

set_option maxHeartbeats 400000 in
set_option maxRecDepth 100000 in
theorem growP_calls (n : Nat) (w : World) (hn : n ≤ 2097152) :
    Calls Try.prog 46 #[.slice none 0 0, .int .i64 n] w fun e w' => ∃ v, e = .returned v ∧ w'.ownsRow w.heap.size 44 2 v 0 [] ∧ Below w.heap.size w w' := by
  obtain ⟨t0, hi, hz0, hz1, hz2⟩ := info_parts Try.info_pairC
  by_cases h0 : n = 0
  · subst h0
    go_enter Try.func46, Try.ntmps46
    go_wp2
    go_ret
    exact ⟨_, rfl, World.ownsRow_nil _ _ _ _, Below.refl _ _⟩
  · have hpos : 0 < n := by omega
    have hpos' : (0 : Int) < (n : Int) := by omega
    have hr : ∀ ty, (Builtin.append_ #[39, 3] ty #[.slice none 0 0, .int .i64 n]).run Try.prog w = _ := fun ty =>
      Lib.run_append_nil_zeros (P := Try.prog) w 39 3 ty 44 t0 (.agg #[.string ByteArray.empty, .string ByteArray.empty]) .i64 .i64 Try.underlying39 Try.underlying3 hi hz0 n hpos (by rw [hz1]; decide) (by omega) (by rw [hz2]; omega)
    have hcap : n ≤ grownCap w n 0 44 := grownCap_ge _ _ _ _
    have hcap2 : grownCap w n 0 44 ≤ maxLen := grownCap_le_maxLen _ _ _ _ (by unfold maxLen; omega)
    generalize grownCap w n 0 44 = cap at *
    have hsz : (Builtin.zeroCells (Value.agg #[.string ByteArray.empty, .string ByteArray.empty]).cells n ++ Builtin.zeroCells (Value.agg #[.string ByteArray.empty, .string ByteArray.empty]).cells (cap - n)).size = cap * 2 := by
      simp [Builtin.zeroCells, Value.cells]; omega
    generalize Builtin.zeroCells (Value.agg #[.string ByteArray.empty, .string ByteArray.empty]).cells n ++ Builtin.zeroCells (Value.agg #[.string ByteArray.empty, .string ByteArray.empty]).cells (cap - n) = cur at *
    have hown : (w.drew.alloc (.cells cur 44)).ownsRow w.heap.size 44 2 (.slice (some ⟨w.heap.size, 0, none⟩) 0 cap) 0 [] := World.ownsRow_made w.drew cur cap (Nat.le_refl _) hcap2 hsz
    have HO := Lib.hid hown
    clear hown
    unfold maxLen at hcap2
    go_enter Try.func46, Try.ntmps46
    go_wp2_with (at_builtin; refine Lib.wpList_append_run _ rfl _ _ _ _ rfl (.slice none 0 0) (.int .i64 n) rfl rfl _ _ (hr _) ?_)
    go_ret
    exact ⟨_, rfl, HO.out, (Below.refl _ _).drew.alloc (Nat.le_refl _) _⟩

def sumTo (l m : List (Txt × Txt)) : Nat → Nat
  | 0 => 0
  | 1 => l.length
  | _ => l.length + m.length
def catTo (l m : List (Txt × Txt)) : Nat → List (Txt × Txt)
  | 0 => []
  | 1 => l
  | _ => l ++ m
set_option maxHeartbeats 1000000 in
set_option maxRecDepth 100000 in
theorem concatP_calls (l m : List (Txt × Txt)) (u1 u2 : Value) (b o : Nat) (w : World) (h1 : Prs w l u1) (h2 : Prs w m u2) (hc1 : w.cell? ⟨b, o, none⟩ = some u1) (hc2 : w.cell? ⟨b, o + 1, none⟩ = some u2) (hlm : l.length + m.length ≤ 2097152) :
    Calls Try.prog 17 #[.slice (some ⟨b, o, none⟩) 2 2] w fun e w' => ∃ v, e = .returned v ∧ Prs w' (l ++ m) v ∧ Below w.heap.size w w' := by
  obtain ⟨t0, hi, hz0, hz1, hz2⟩ := info_parts Try.info_pairC
  obtain ⟨p1, c1, xs1, e1, hl1, hm1, hr1, hp1, hx1⟩ := SliceOf.rows (by decide) h1
  obtain ⟨p2, c2, xs2, e2, hl2, hm2, hr2, hp2, hx2⟩ := SliceOf.rows (by decide) h2
  subst e1 e2
  have hlen : ((l.length : Int) + (m.length : Int)) ≤ 2097152 := by omega
  have HX1 := Lib.hid hx1
  have HX2 := Lib.hid hx2
  have HR1 := Lib.hid hr1
  have HR2 := Lib.hid hr2
  have HP1 := Lib.hid hp1
  have HP2 := Lib.hid hp2
  clear h1 h2 hx1 hx2 hr1 hr2 hp1 hp2
  go_enter Try.func17, Try.ntmps17
  go_wp2
  go_loop [3, 11] (fun s i => ∃ k : Nat, k ≤ 2 ∧ i = .int .i64 k ∧ s = .int .i64 (sumTo l m k)) (fun _ i => 2 - (intOf i).toNat)
  case atStart => exact ⟨0, by omega, rfl, rfl⟩
  case round =>
    obtain ⟨k, hk, rfl, rfl⟩ := hrel
    match k, hk with
    | 0, _ =>
      simp only [sumTo]
      go_wp2
      go_round
      case rel => exact ⟨1, by omega, by go_num, by simp [sumTo]⟩
      case measure => simp [intOf]
    | 1, _ =>
      simp only [sumTo]
      go_wp2
      go_round
      case rel => exact ⟨2, by omega, by go_num, by simp [sumTo]⟩
      case measure => simp [intOf]
    | 2, _ =>
      simp only [sumTo]
      go_wp2_with (fail)
      refine (growP_calls (l.length + m.length) _ (by omega)).mono ?_
      rintro e w1 ⟨x, rfl, hown, hb1⟩
      go_wp2
      go_loopw [6, 8, 27] (fun x _ i wr => ∃ k : Nat, k ≤ 2 ∧ i = .int .i64 k ∧ Below w.heap.size w wr ∧ ∃ xs, wr.ownsRow w.heap.size 44 2 x (catTo l m k).length xs ∧ Rows (Both txt txt) 2 wr (catTo l m k) xs) (fun _ _ i _ => 2 - (intOf i).toNat)
      case atStart => exact ⟨0, by omega, rfl, hb1, [], hown, rfl⟩
      case round =>
        clear hown hb1
        obtain ⟨k, hk, rfl, hb, xs, hown, hrow⟩ := hrel
        match k, hk with
        | 0, _ =>
          simp only [catTo] at hown hrow
          have hcell := (hb.cell (cell_lt hc1)).trans hc1
          have hk2 := keeps_of_below hb
          have HB := Lib.hid hb
          have hown1 := hown
          have HOW := Lib.hid hrow
          clear hrow
          go_wp2_with (at_builtin; refine wpList_append_src _ rfl _ _ 39 rfl w.heap.size 44 t0 (.agg #[.string ByteArray.empty, .string ByteArray.empty]) 2 32 Try.underlying39 hi hz0 hz1 hz2 rfl (by decide) _ _ _ rfl hown p1 l.length c1 xs1 rfl HR1.out.length HP1.out ?c1 (Rows.plain prs_plain HR1.out) ?c2 ?c3 hb.size ?_)
          case c1 => exact fun ad e j u hu => cell_keep hk2 (HX1.out ad e j u hu)
          case c2 => (try simp only [List.length_nil]); unfold maxLen; omega
          case c3 => (try simp only [List.length_nil]); omega
          · intro v' w5 hown' hgrow
            go_wp2
            go_roundw
            case rel =>
              refine ⟨1, by omega, by go_num, HB.out.grown hgrow HB.out.size (fun q hq => (hown1.lt q hq).1), xs ++ xs1, ?_, ?_⟩
              · simpa [catTo] using hown'
              · exact Rows.free prs_free (HOW.out.append (Rows.free (w' := wr) prs_free HR1.out))
            case measure => simp [intOf]
        | 1, _ =>
          simp only [catTo] at hown hrow
          have hcell := (hb.cell (cell_lt hc2)).trans hc2
          have hk2 := keeps_of_below hb
          have HB := Lib.hid hb
          have hown1 := hown
          have HOW := Lib.hid hrow
          clear hrow
          go_wp2_with (at_builtin; refine wpList_append_src _ rfl _ _ 39 rfl w.heap.size 44 t0 (.agg #[.string ByteArray.empty, .string ByteArray.empty]) 2 32 Try.underlying39 hi hz0 hz1 hz2 rfl (by decide) _ _ _ rfl hown p2 m.length c2 xs2 rfl HR2.out.length HP2.out ?c1 (Rows.plain prs_plain HR2.out) ?c2 ?c3 hb.size ?_)
          case c1 => exact fun ad e j u hu => cell_keep hk2 (HX2.out ad e j u hu)
          case c2 => (try simp only [List.length_nil]); unfold maxLen; omega
          case c3 => (try simp only [List.length_nil]); omega
          · intro v' w5 hown' hgrow
            go_wp2
            go_roundw
            case rel =>
              refine ⟨2, by omega, by go_num, HB.out.grown hgrow HB.out.size (fun q hq => (hown1.lt q hq).1), xs ++ xs2, ?_, ?_⟩
              · simpa [catTo] using hown'
              · exact Rows.free prs_free (HOW.out.append (Rows.free (w' := wr) prs_free HR2.out))
            case measure => simp [intOf]
        | 2, _ =>
          simp only [catTo] at hown hrow
          have hfin : Prs wr (l ++ m) _ := SliceOf.of_rows hown hrow
          have HF := Lib.hid hfin
          clear hown hrow hfin
          go_wp2
          go_ret
          exact ⟨_, rfl, HF.out, hb⟩
end Go.Proofs.Ytcobgbkoeehdnaa
