/-
  cloisterlaw.ScanJoin: any tokens' texts are put together as the document says: the call returns true.
-/
import Derived.Test.YtcobgbkoeehdnaaScanG
namespace Go.Proofs.Ytcobgbkoeehdnaa
open Go.RowKit
set_option linter.unusedVariables false
set_option linter.unusedSimpArgs false

/-- The first texts put together. -/
def joinK (l : List Tok) (k : Nat) : Txt := joinT (textsOf (l.take k)) blankT
theorem joinK_first {l : List Tok} (h : 0 < l.length) : joinK l (0 + 1) = l[0].2.2 := by
  unfold joinK textsOf; rw [List.take_succ_eq_append_getElem h, List.take_zero, List.nil_append, List.map_cons, List.map_nil, joinT_one]
theorem joinK_next {l : List Tok} {k : Nat} (hk : k < l.length) (h0 : ¬ k = 0) : joinK l (k + 1) = joinK l k ++ blankT ++ l[k].2.2 := by
  unfold joinK textsOf
  rw [List.take_succ_eq_append_getElem hk, List.map_append, List.map_cons, List.map_nil, joinT_snoc]
  intro h
  have h1 := List.map_eq_nil_iff.1 h
  rw [List.take_eq_nil_iff] at h1
  rcases h1 with h1 | h1
  · exact h0 h1
  · subst h1; exact absurd hk (by simp)
theorem joinK_size {l : List Tok} {k : Nat} (h0 : l.length ≤ 600) (hk : k ≤ l.length) (h : ∀ j (hj : j < l.length), j < k → wideT l[j] = false) : (joinK l k).size ≤ 2400600 := by
  have hn : ∀ s ∈ textsOf (l.take k), s.size ≤ 4000 := fun s hs => by
    obtain ⟨x, hx, rfl⟩ := List.mem_map.1 hs
    obtain ⟨j, hj, rfl⟩ := List.getElem_of_mem hx
    rw [List.length_take] at hj
    rw [List.getElem_take]
    have := h j (by omega) (by omega)
    unfold wideT at this
    simp at this
    omega
  unfold joinK
  rw [joinT_size]
  have h1 := join_len (textsOf (l.take k)) blankT 4000 hn
  have e1 : blankT.size = 1 := rfl
  have hm : (textsOf (l.take k)).length * (4000 + blankT.size) ≤ 600 * 4001 := Nat.mul_le_mul (by unfold textsOf; rw [List.length_map, List.length_take]; omega) (by rw [e1]; decide)
  omega

set_option maxHeartbeats 1000000 in
set_option maxRecDepth 100000 in
theorem scanJoin_calls (l : List Tok) (v : Value) (w : World) (hv : Toks w l v) :
    Calls Try.prog 3 #[v] w fun e w' => e = .returned (.bool true) ∧ Below w.heap.size w w' := by
  obtain ⟨b, o, c, p, rfl, hlc, hcm, hp, hcells⟩ := hv.cells
  have HC := Lib.hid hcells
  have HP := Lib.hid hp
  clear hcells hp
  go_enter Try.func3, Try.ntmps3
  go_wp2_with (fail)
  refine (join_tok_calls l _ _ hv).mono ?_
  rintro e w1 ⟨rfl, hb1⟩
  have HB0 := Lib.hid hb1
  clear hb1 hv
  by_cases h0 : l.length ≤ 600
  · have h0' : (l.length : Int) ≤ 600 := by omega
    go_wp2
    go_loopw [5, 6, 7, 8, 19] (fun q y _ _ i wr => ∃ k : Nat, k ≤ l.length ∧ q = .int .i64 0 ∧ y = .string (joinK l k) ∧ i = .int .i64 k ∧ Below w.heap.size w wr ∧ Hid (∀ j (hj : j < l.length), j < k → wideT l[j] = false)) (fun _ _ _ _ i _ => l.length - (intOf i).toNat)
    case atStart => exact ⟨0, Nat.zero_le _, rfl, rfl, rfl, HB0.out, fun j _ hj => absurd hj (Nat.not_lt_zero _)⟩
    case round =>
      obtain ⟨k, hk, rfl, rfl, rfl, hb, HN⟩ := hrel
      have HB := Lib.hid hb
      clear hb
      by_cases hlt : k < l.length
      · have hjs := joinK_size h0 hk HN.out
        obtain ⟨g1, g2, g3⟩ := HC.out k hlt
        obtain rfl := HP.out (by omega)
        have r1 : wr.cell? ⟨b, o + k * 3, none⟩ = some (.int .i64 l[k].1) := (HB.out.cell (cell_lt g1)).trans g1
        have r2 : wr.cell? ⟨b, o + k * 3 + 1, none⟩ = some (.int .i64 l[k].2.1) := (HB.out.cell (cell_lt g2)).trans g2
        have r3 : wr.cell? ⟨b, o + k * 3 + 2, none⟩ = some (.string l[k].2.2) := (HB.out.cell (cell_lt g3)).trans g3
        obtain ⟨W1, eW⟩ : ∃ W1, wr.alloc (.cells #[.int .i64 l[k].1, .int .i64 l[k].2.1, .string l[k].2.2] 27) = W1 := ⟨_, rfl⟩
        obtain ⟨z1, hW1, m1⟩ := boxes1 eW
        have s3 := m1 2
        simp only [List.getElem?_toArray, List.getElem?_cons_zero, List.getElem?_cons_succ] at s3
        have HB1 := Lib.hid (HB.out.trans (hW1.mono HB.out.size))
        clear g1 g2 g3 m1 hW1 z1

        cases hw : wideT l[k] with
        | true =>
          have HX : Hid (joinE l = 2 ∧ joinS l = ByteArray.empty) := by unfold Hid joinE joinS; rw [wide_at hlt hw]; exact ⟨rfl, rfl⟩
          have hw' : 4000 < (l[k].2.2.size : Int) := by unfold wideT at hw; simp at hw; omega
          clear hw
          rw [HX.out.1, HX.out.2]
          go_wp2_with (fail)
          refine (scanned_calls _).mono ?_
          rintro e w4 ⟨rfl, hb4⟩
          have HB4 := Lib.hid (HB1.out.trans (hb4.mono HB1.out.size))
          clear hb4
          go_wp2_with (fail)
          refine (scanned_calls _).mono ?_
          rintro e w5 ⟨rfl, hb5⟩
          go_wp2
          go_ret
          exact ⟨rfl, HB4.out.trans (hb5.mono HB4.out.size)⟩

        | false =>
          have HWN : Hid (∀ j (hj : j < l.length), j < k + 1 → wideT l[j] = false) := fun j hj h => by
            by_cases e : j = k
            · subst e; exact hw
            · exact HN.out j hj (by omega)
          have hw' : (l[k].2.2.size : Int) ≤ 4000 := by unfold wideT at hw; simp at hw; omega
          clear hw
          by_cases hz : k = 0
          · have hz' : (k : Int) ≤ 0 := by omega
            have HJ : Hid (joinK l (k + 1) = l[k].2.2) := by subst hz; exact joinK_first hlt
            have HJ0 : Hid (joinK l k = ByteArray.empty) := by subst hz; rfl
            clear hz
            go_wp2
            go_roundw
            case rel => exact ⟨k + 1, by omega, rfl, by rw [HJ.out, HJ0.out]; simp, by go_num, HB1.out, HWN⟩
            case measure => simp [intOf]; omega
          · have hz' : 0 < (k : Int) := by omega
            have HJ : Hid (joinK l (k + 1) = joinK l k ++ blankT ++ l[k].2.2) := joinK_next hlt hz
            have hjs2 : (joinK l k ++ (⟨#[32]⟩ : ByteArray)).size ≤ 2400601 := by rw [ByteArray.size_append]; have : (⟨#[32]⟩ : ByteArray).size = 1 := rfl; omega
            go_wp2
            go_roundw
            case rel => exact ⟨k + 1, by omega, rfl, by rw [HJ.out]; rfl, by go_num, HB1.out, HWN⟩
            case measure => simp [intOf]; omega
      · obtain rfl : k = l.length := by omega
        have hno := wide_none h0 fun j hj => HN.out j hj hj
        have HX : Hid (joinE l = 0 ∧ joinS l = joinK l l.length) := by unfold Hid joinE joinS joinK; rw [hno, List.take_length]; exact ⟨rfl, rfl⟩
        clear hno
        rw [HX.out.1, HX.out.2]
        generalize joinK l l.length = want at *
        have hself : (want.toList == want.toList) = true := by simp
        go_wp2_with (fail)
        refine (scanned_calls _).mono ?_
        rintro e w4 ⟨rfl, hb4⟩
        go_wp2
        go_ret
        exact ⟨rfl, HB.out.trans (hb4.mono HB.out.size)⟩
  · have h0' : 600 < (l.length : Int) := by omega
    have HX : Hid (joinE l = 2 ∧ joinS l = ByteArray.empty) := by
      have : wideL l = true := by unfold wideL; rw [Bool.or_eq_true]; exact .inl (by simpa using h0)
      unfold Hid joinE joinS; rw [this]; exact ⟨rfl, rfl⟩
    rw [HX.out.1, HX.out.2]
    go_wp2
    go_loopw [5, 6, 7, 8, 19] (fun q y _ _ i wr => q = .int .i64 2 ∧ y = .string ⟨#[]⟩ ∧ i = .int .i64 0 ∧ Below w.heap.size w wr) (fun _ _ _ _ _ _ => 0)
    case atStart => exact ⟨rfl, rfl, rfl, HB0.out⟩
    case round =>
      obtain ⟨rfl, rfl, rfl, hb⟩ := hrel
      have HB := Lib.hid hb
      clear hb
      have hlt : 0 < l.length := by omega
      obtain ⟨g1, g2, g3⟩ := HC.out 0 hlt
      simp only [Nat.zero_mul, Nat.add_zero] at g1 g2 g3
      obtain rfl := HP.out (by omega)
      have r1 : wr.cell? ⟨b, o, none⟩ = some (.int .i64 l[0].1) := (HB.out.cell (cell_lt g1)).trans g1
      have r2 : wr.cell? ⟨b, o + 1, none⟩ = some (.int .i64 l[0].2.1) := (HB.out.cell (cell_lt g2)).trans g2
      have r3 : wr.cell? ⟨b, o + 2, none⟩ = some (.string l[0].2.2) := (HB.out.cell (cell_lt g3)).trans g3
      obtain ⟨W1, eW⟩ : ∃ W1, wr.alloc (.cells #[.int .i64 l[0].1, .int .i64 l[0].2.1, .string l[0].2.2] 27) = W1 := ⟨_, rfl⟩
      obtain ⟨z1, hW1, m1⟩ := boxes1 eW
      have s3 := m1 2
      simp only [List.getElem?_toArray, List.getElem?_cons_zero, List.getElem?_cons_succ] at s3
      have HB1 := Lib.hid (HB.out.trans (hW1.mono HB.out.size))
      clear g1 g2 g3 m1 hW1 z1
      go_wp2_with (fail)
      refine (scanned_calls _).mono ?_
      rintro e w4 ⟨rfl, hb4⟩
      have HB4 := Lib.hid (HB1.out.trans (hb4.mono HB1.out.size))
      clear hb4
      go_wp2_with (fail)
      refine (scanned_calls _).mono ?_
      rintro e w5 ⟨rfl, hb5⟩
      go_wp2
      go_ret
      exact ⟨rfl, HB4.out.trans (hb5.mono HB4.out.size)⟩

end Go.Proofs.Ytcobgbkoeehdnaa
