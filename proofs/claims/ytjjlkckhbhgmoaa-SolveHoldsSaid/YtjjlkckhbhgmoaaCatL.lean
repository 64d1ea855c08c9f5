/-
  slices.Grow and Concat over policies.
-/
import Derived.Test.YtjjlkckhbhgmoaaApp
import Derived.Test.YtjjlkckhbhgmoaaNormal
namespace Go.Proofs.Ytjjlkckhbhgmoaa
open Go.RowKit
set_option linter.unusedVariables false
set_option linter.unusedSimpArgs false

theorem pol_plain : Plain pol := Both.plain txt_plain Sl.plain

set_option maxHeartbeats 400000 in
set_option maxRecDepth 100000 in
theorem growL_calls (n : Nat) (w : World) (hn : n ≤ 2097152) :
    Calls Try.prog 58 #[.slice none 0 0, .int .i64 n] w fun e w' => ∃ v, e = .returned v ∧ w'.ownsRow w.heap.size 58 2 v 0 [] ∧ Below w.heap.size w w' := by
  obtain ⟨t0, hi, hz0, hz1, hz2⟩ := info_parts Try.info_policy
  by_cases h0 : n = 0
  · subst h0
    go_enter Try.func58, Try.ntmps58
    go_wp2
    go_ret
    exact ⟨_, rfl, World.ownsRow_nil _ _ _ _, Below.refl _ _⟩
  · have hpos : 0 < n := by omega
    have hpos' : (0 : Int) < (n : Int) := by omega
    have hr : ∀ ty, (Builtin.append_ #[25, 3] ty #[.slice none 0 0, .int .i64 n]).run Try.prog w = _ := fun ty =>
      Lib.run_append_nil_zeros (P := Try.prog) w 25 3 ty 58 t0 (.agg #[.string ByteArray.empty, .slice none 0 0]) .i64 .i64 Try.underlying25 Try.underlying3 hi hz0 n hpos (by rw [hz1]; decide) (by omega) (by rw [hz2]; omega)
    have hcap : n ≤ grownCap w n 0 58 := grownCap_ge _ _ _ _
    have hcap2 : grownCap w n 0 58 ≤ maxLen := grownCap_le_maxLen _ _ _ _ (by unfold maxLen; omega)
    generalize grownCap w n 0 58 = cap at *
    have hsz : (Builtin.zeroCells (Value.agg #[.string ByteArray.empty, .slice none 0 0]).cells n ++ Builtin.zeroCells (Value.agg #[.string ByteArray.empty, .slice none 0 0]).cells (cap - n)).size = cap * 2 := by
      simp [Builtin.zeroCells, Value.cells]; omega
    generalize Builtin.zeroCells (Value.agg #[.string ByteArray.empty, .slice none 0 0]).cells n ++ Builtin.zeroCells (Value.agg #[.string ByteArray.empty, .slice none 0 0]).cells (cap - n) = cur at *
    have hown : (w.drew.alloc (.cells cur 58)).ownsRow w.heap.size 58 2 (.slice (some ⟨w.heap.size, 0, none⟩) 0 cap) 0 [] := World.ownsRow_made w.drew cur cap (Nat.le_refl _) hcap2 hsz
    have HO := Lib.hid hown
    clear hown
    unfold maxLen at hcap2
    go_enter Try.func58, Try.ntmps58
    go_wp2_with (at_builtin; refine Lib.wpList_append_run _ rfl _ _ _ _ rfl (.slice none 0 0) (.int .i64 n) rfl rfl _ _ (hr _) ?_)
    go_ret
    exact ⟨_, rfl, HO.out, (Below.refl _ _).drew.alloc (Nat.le_refl _) _⟩

def sumL (l m : Lab) : Nat → Nat
  | 0 => 0
  | 1 => l.length
  | _ => l.length + m.length
def catL (l m : Lab) : Nat → Lab
  | 0 => []
  | 1 => l
  | _ => l ++ m
set_option maxHeartbeats 1000000 in
set_option maxRecDepth 100000 in
theorem concatL_calls (l m : Lab) (u1 u2 : Value) (b o : Nat) (w : World) (h1 : Lbl w l u1) (h2 : Lbl w m u2) (hc1 : w.cell? ⟨b, o, none⟩ = some u1) (hc2 : w.cell? ⟨b, o + 1, none⟩ = some u2) (hlm : l.length + m.length ≤ 2097152) :
    Calls Try.prog 35 #[.slice (some ⟨b, o, none⟩) 2 2] w fun e w' => ∃ v, e = .returned v ∧ Lbl w' (l ++ m) v ∧ Below w.heap.size w w' := by
  obtain ⟨t0, hi, hz0, hz1, hz2⟩ := info_parts Try.info_policy
  obtain ⟨p1, c1, xs1, e1, hl1, hm1, hr1, hp1, hx1⟩ := SliceOf.rows (by decide) h1
  obtain ⟨p2, c2, xs2, e2, hl2, hm2, hr2, hp2, hx2⟩ := SliceOf.rows (by decide) h2
  subst e1 e2
  have hlen : ((l.length : Int) + (m.length : Int)) ≤ 2097152 := by omega
  have HX1 := Lib.hid hx1
  have HX2 := Lib.hid hx2
  have HR1 := Lib.hid hr1
  have HR2 := Lib.hid hr2
  have HP1 := Lib.hid hp1
  have HP2 := Lib.hid hp2
  clear h1 h2 hx1 hx2 hr1 hr2 hp1 hp2
  go_enter Try.func35, Try.ntmps35
  go_wp2
  go_loop [3, 11] (fun s i => ∃ k : Nat, k ≤ 2 ∧ i = .int .i64 k ∧ s = .int .i64 (sumL l m k)) (fun _ i => 2 - (intOf i).toNat)
  case atStart => exact ⟨0, by omega, rfl, rfl⟩
  case round =>
    obtain ⟨k, hk, rfl, rfl⟩ := hrel
    match k, hk with
    | 0, _ =>
      simp only [sumL]
      go_wp2
      go_round
      case rel => exact ⟨1, by omega, by go_num, by simp [sumL]⟩
      case measure => simp [intOf]
    | 1, _ =>
      simp only [sumL]
      go_wp2
      go_round
      case rel => exact ⟨2, by omega, by go_num, by simp [sumL]⟩
      case measure => simp [intOf]
    | 2, _ =>
      simp only [sumL]
      go_wp2_with (fail)
      refine (growL_calls (l.length + m.length) _ (by omega)).mono ?_
      rintro e w1 ⟨x, rfl, hown, hb1⟩
      go_wp2
      go_loopw [6, 8, 27] (fun x _ i wr => ∃ k : Nat, k ≤ 2 ∧ i = .int .i64 k ∧ Below w.heap.size w wr ∧ ∃ xs, wr.ownsRow w.heap.size 58 2 x (catL l m k).length xs ∧ Rows pol 2 w (catL l m k) xs) (fun _ _ i _ => 2 - (intOf i).toNat)
      case atStart => exact ⟨0, by omega, rfl, hb1, [], hown, rfl⟩
      case round =>
        clear hown hb1
        obtain ⟨k, hk, rfl, hb, xs, hown, hrow⟩ := hrel
        match k, hk with
        | 0, _ =>
          simp only [catL] at hown hrow
          have hcell := (hb.cell (cell_lt hc1)).trans hc1
          have hk2 := keeps_of_below hb
          have HB := Lib.hid hb
          have hown1 := hown
          have HOW := Lib.hid hrow
          clear hrow
          go_wp2_with (at_builtin; refine wpList_append_src _ rfl _ _ 25 rfl w.heap.size 58 t0 (.agg #[.string ByteArray.empty, .slice none 0 0]) 2 40 Try.underlying25 hi hz0 hz1 hz2 rfl (by decide) _ _ _ rfl hown p1 l.length c1 xs1 rfl HR1.out.length HP1.out ?c1 (Rows.plain pol_plain HR1.out) ?c2 ?c3 hb.size ?_)
          case c1 => exact fun ad e j u hu => cell_keep hk2 (HX1.out ad e j u hu)
          case c2 => (try simp only [List.length_nil]); unfold maxLen; omega
          case c3 => (try simp only [List.length_nil]); omega
          · intro v' w5 hown' hgrow
            go_wp2
            go_roundw
            case rel =>
              refine ⟨1, by omega, by go_num, HB.out.grown hgrow HB.out.size (fun q hq => (hown1.lt q hq).1), xs ++ xs1, ?_, ?_⟩
              · simpa [catL] using hown'
              · exact HOW.out.append HR1.out
            case measure => simp [intOf]
        | 1, _ =>
          simp only [catL] at hown hrow
          have hcell := (hb.cell (cell_lt hc2)).trans hc2
          have hk2 := keeps_of_below hb
          have HB := Lib.hid hb
          have hown1 := hown
          have HOW := Lib.hid hrow
          clear hrow
          go_wp2_with (at_builtin; refine wpList_append_src _ rfl _ _ 25 rfl w.heap.size 58 t0 (.agg #[.string ByteArray.empty, .slice none 0 0]) 2 40 Try.underlying25 hi hz0 hz1 hz2 rfl (by decide) _ _ _ rfl hown p2 m.length c2 xs2 rfl HR2.out.length HP2.out ?c1 (Rows.plain pol_plain HR2.out) ?c2 ?c3 hb.size ?_)
          case c1 => exact fun ad e j u hu => cell_keep hk2 (HX2.out ad e j u hu)
          case c2 => (try simp only [List.length_nil]); unfold maxLen; omega
          case c3 => (try simp only [List.length_nil]); omega
          · intro v' w5 hown' hgrow
            go_wp2
            go_roundw
            case rel =>
              refine ⟨2, by omega, by go_num, HB.out.grown hgrow HB.out.size (fun q hq => (hown1.lt q hq).1), xs ++ xs2, ?_, ?_⟩
              · simpa [catL] using hown'
              · exact HOW.out.append HR2.out
            case measure => simp [intOf]
        | 2, _ =>
          simp only [catL] at hown hrow
          have hfin : Lbl wr (l ++ m) _ := SliceOf.of_rows hown (Rows.stays pol_stays (keeps_of_below hb) hrow)
          have HF := Lib.hid hfin
          clear hown hrow hfin
          go_wp2
          go_ret
          exact ⟨_, rfl, HF.out, hb⟩
end Go.Proofs.Ytjjlkckhbhgmoaa
