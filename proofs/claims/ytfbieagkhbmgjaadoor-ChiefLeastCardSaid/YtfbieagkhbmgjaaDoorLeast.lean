/-
  chief.Least: the fewest pairs by which the same act for the same.
-/
import Derived.Test.YtfbieagkhbmgjaaDoorLeastP
namespace Go.Proofs.YtfbieagkhbmgjaaDoor
open Go.RowKit
set_option linter.unusedVariables false
set_option linter.unusedSimpArgs false

theorem Tryd.info_pair : (Tryd.prog.info? 33).map (fun i => (i.zero, i.size, i.bytes)) = some (some (.agg #[.string ByteArray.empty, .string ByteArray.empty]), 2, 32) := by kernel_rfl
def pairCells (x : Txt × Txt) : List Value := [.string x.1, .string x.2]
theorem Prs.of_owns {w : World} {l : List (Txt × Txt)} {base : Nat} {e : TypeId} {v : Value} (h : w.ownsRow base e 2 v l.length (l.flatMap pairCells)) : Prs w l v := by
  refine SliceOf.of_owns h fun i hi => ⟨pairCells l[i], ⟨_, _, rfl, rfl, rfl⟩, rfl, fun j x hx => ?_⟩
  have key : ∀ (l : List (Txt × Txt)) (i : Nat) (hi : i < l.length) (j : Nat) (x : Value), (pairCells l[i])[j]? = some x → (l.flatMap pairCells)[i * 2 + j]? = some x := by
    intro l
    induction l with
    | nil => intro i hi; simp at hi
    | cons y l ih =>
      intro i hi j x hx
      cases i with
      | zero =>
        have hj : j < 2 := by
          have := (List.getElem?_eq_some_iff.1 hx).1
          simpa [pairCells] using this
        simp only [List.flatMap_cons, Nat.zero_mul, Nat.zero_add]
        rw [List.getElem?_append_left (by simpa [pairCells] using hj)]
        simpa using hx
      | succ i =>
        simp only [List.flatMap_cons]
        rw [List.getElem?_append_right (by simp [pairCells]; omega)]
        have : (i + 1) * 2 + j - (pairCells y).length = i * 2 + j := by simp [pairCells]; omega
        rw [this]
        exact ih i (by simpa using hi) j x (by simpa using hx)
  exact key l i hi j x hx
theorem leastTo_flat {l : List Txt} {M : Nat → Nat → Bool} {i k : Nat} {x y : Txt} {m : List (Txt × Txt)} (h : leastTo l M i k = m ++ [(x, y)]) : (leastTo l M i k).flatMap pairCells = m.flatMap pairCells ++ [.string x, .string y] ∧ (leastTo l M i k).length = m.length + 1 := by
  rw [h]; simp [pairCells]
theorem any_succ (p : Nat → Bool) (n : Nat) : (List.range (n + 1)).any p = ((List.range n).any p || p n) := by
  simp [List.range_succ, List.any_append]

theorem bad_snoc {M : Nat → Nat → Bool} {n i k : Nat} (h : ∀ x, x ∈ ahead n i k → badM M x.1 x.2 = false) (hb : badM M i k = false) : ∀ x, x ∈ ahead n i (k + 1) → badM M x.1 x.2 = false := by
  intro x hx
  rw [ahead_succ, List.mem_append] at hx
  rcases hx with hx | hx
  · exact h x hx
  · simp at hx
    subst hx
    exact hb
theorem leastTo_row (l : List Txt) (M : Nat → Nat → Bool) (i : Nat) : leastTo l M i l.length = leastTo l M (i + 1) 0 := by unfold leastTo; rw [ahead_row]
/-- Is somebody of the first ones between? -/
def anyTo (M : Nat → Nat → Bool) (i k j : Nat) : Bool := (List.range j).any (betwM M i k)
theorem anyTo_succ (M : Nat → Nat → Bool) (i k j : Nat) : anyTo M i k (j + 1) = (anyTo M i k j || betwM M i k j) := any_succ _ _

theorem betw_a {M : Nat → Nat → Bool} {i k j : Nat} (h : j = i) : betwM M i k j = false := by simp [betwM, h]
theorem betw_b {M : Nat → Nat → Bool} {i k j : Nat} (h : j = k) : betwM M i k j = false := by simp [betwM, h]
theorem betw_c {M : Nat → Nat → Bool} {i k j : Nat} (h : M i j = false) : betwM M i k j = false := by simp [betwM, h]
theorem betw_d {M : Nat → Nat → Bool} {i k j : Nat} (h : M j k = false) : betwM M i k j = false := by simp [betwM, h]
theorem betw_e {M : Nat → Nat → Bool} {i k j : Nat} (h1 : ¬ j = i) (h2 : ¬ j = k) (h3 : M i j = true) (h4 : M j k = true) : betwM M i k j = true := by simp [betwM, h1, h2, h3, h4]
theorem cover_no {M : Nat → Nat → Bool} {n i k : Nat} (h : anyTo M i k n = true) : coverM M n i k = false := by
  unfold anyTo at h
  simp [coverM, h]
theorem cover_yes {M : Nat → Nat → Bool} {n i k : Nat} (hik : ¬ i = k) (hM : M i k = true) (h : anyTo M i k n = false) : coverM M n i k = true := by
  unfold anyTo at h
  simp [coverM, overM, h, hik, hM]

set_option maxHeartbeats 1000000 in
set_option maxRecDepth 100000 in
theorem least_calls (l : List Txt) (acts : List (Txt × Txt)) (v u : Value) (w : World) (hv : Strs w l v) (hu : Prs w acts u) :
    Calls Tryd.prog 8 #[v, u] w fun e w' => ∃ x, e = .returned (.tuple #[x, .int .i64 (leastE l acts)]) ∧ Prs w' (leastR l acts) x ∧ Below w.heap.size w w' := by
  have hv0 := hv
  have hu0 := hu
  by_cases hc : checkC l acts = 0
  · obtain ⟨z1, z2, z3, z4⟩ := checkC_zero hc
    have hc' : (checkC l acts == 0) = true := by simpa using hc
    have hc2 : (checkC l acts != 0) = false := by simpa using hc
    have HC := Lib.hid hc
    have HZ := Lib.hid z4
    clear hc z3 z4
    obtain ⟨b0, o, c, p, rfl, hlc, hcm, hp, hcells⟩ := hv.cells
    obtain ⟨t0, hi, hz0, hz1, hz2⟩ := info_parts Tryd.info_pair
    clear hv
    go_enter Tryd.func8, Tryd.ntmps8
    go_wp2_with (go_at_call 18; refine (check_calls l acts _ _ _ hv0 hu).mono ?_; rintro e w1 ⟨rfl, hb1⟩)
    refine (closure_calls l acts _ _ _ (hv0.stays (keeps_of_below hb1)) (hu0.stays (keeps_of_below hb1)) z1 z2 HZ.out).mono ?_
    rintro e w4 ⟨rfl, hM, hb4⟩
    generalize hMM : closM l acts = M at hM
    have HMM := Lib.hid hMM
    clear hMM
    have hbW : Below w.heap.size w w4 := hb1.trans (hb4.mono hb1.size)
    go_wp2
    go_loopw [8, 9, 10, 11, 12, 13, 14, 26, 33, 60] (fun x _ _ _ _ _ _ i _ _ wr => ∃ k : Nat, k ≤ l.length ∧ i = .int .i64 k ∧ Below w4.heap.size w4 wr ∧ wr.ownsRow w4.heap.size 33 2 x (leastTo l M k 0).length ((leastTo l M k 0).flatMap pairCells) ∧ Hid (∀ x, x ∈ ahead l.length k 0 → badM M x.1 x.2 = false)) (fun _ _ _ _ _ _ _ i _ _ _ => l.length - (intOf i).toNat)
    case atStart => exact ⟨0, Nat.zero_le _, rfl, Below.refl _ _, World.ownsRow_nil _ _ _ _, by first | exact trivial | (intro x hx; simp [ahead_zero] at hx)⟩
    case round =>
      obtain ⟨i, hi', rfl, hbr, hown, HB⟩ := hrel
      have hbw : Below w.heap.size w wr := hbW.trans (hbr.mono (hbW.size))
      by_cases hlt : i < l.length
      · have hcell0 := hcells i hlt
        have hcell : wr.cell? ⟨b0, o + i, none⟩ = some (.string l[i]) := (hbw.cell (cell_lt hcell0)).trans hcell0
        have hp' := hp
        obtain rfl := hp' (by omega)
        clear hcell0
        go_wp2
        clear hcell hbw
        go_loopw [8, 11, 12, 13, 14, 33, 60] (fun x _ _ _ _ i' _ wr => ∃ k : Nat, k ≤ l.length ∧ i' = .int .i64 k ∧ Below w4.heap.size w4 wr ∧ wr.ownsRow w4.heap.size 33 2 x (leastTo l M i k).length ((leastTo l M i k).flatMap pairCells) ∧ Hid (∀ x, x ∈ ahead l.length i k → badM M x.1 x.2 = false)) (fun _ _ _ _ _ i' _ _ => l.length - (intOf i').toNat)
        case atStart => exact ⟨0, Nat.zero_le _, rfl, hbr, hown, HB⟩
        case round =>
          clear hbr hown HB
          obtain ⟨k, hk, rfl, hbr, hown, HB⟩ := hrel
          have hbw : Below w.heap.size w wr := hbW.trans (hbr.mono (hbW.size))
          by_cases hltk : k < l.length
          · have hcell0 := hcells k hltk
            have hcell : wr.cell? ⟨b0, o + k, none⟩ = some (.string l[k]) := (hbw.cell (cell_lt hcell0)).trans hcell0
            have hMr := hM.below hbr
            have hr := hMr.row hlt
            have hr2 := hMr.row hltk
            have hce := hMr.cell hlt hltk
            have hce2 := hMr.cell hltk hlt
            clear hcell0
            by_cases hik : i = k
            · subst hik
              have hcov : coverM M l.length i i = false := by simp [coverM, overM]
              have HX : Hid (leastTo l M i (i + 1) = leastTo l M i i) := leastTo_miss hcov
              have HBn : Hid (∀ x, x ∈ ahead l.length i (i + 1) → badM M x.1 x.2 = false) := bad_snoc HB.out (by simp [badM, overM])
              clear hcov
              go_wp2
              go_roundw
              case rel => exact ⟨i + 1, by omega, by go_num, hbr, by rw [HX.out]; exact hown, HBn⟩
              case measure => simp [intOf]; omega
            · have hik' : ((i : Int) == (k : Int)) = false := by simp; omega
              cases hx : M i k with
              | false =>
                rw [hx] at hce
                have hcov : coverM M l.length i k = false := by simp [coverM, overM, hx]
                have HX : Hid (leastTo l M i (k + 1) = leastTo l M i k) := leastTo_miss hcov
                have HBn : Hid (∀ x, x ∈ ahead l.length i (k + 1) → badM M x.1 x.2 = false) := bad_snoc HB.out (by simp [badM, overM, hx])
                clear hcov hx
                go_wp2
                go_roundw
                case rel => exact ⟨k + 1, by omega, by go_num, hbr, by rw [HX.out]; exact hown, HBn⟩
                case measure => simp [intOf]; omega
              | true =>
                rw [hx] at hce
                cases hy : M k i with
                | true =>
                  rw [hy] at hce2
                  have e0 : ringM l (closM l acts) = true := by
                    rw [HMM.out]
                    unfold ringM
                    rw [List.any_eq_true]
                    exact ⟨(i, k), mem_ahead.2 (.inl ⟨hlt, hltk⟩), by simp [badM, overM, hx, hy, hik]⟩
                  have e1 : leastE l acts = 4 := by unfold leastE; rw [if_neg (by have := HC.out; omega), e0]; rfl
                  have e2 : leastR l acts = [] := by unfold leastR; rw [if_neg (by omega)]
                  have HE := Lib.hid e1
                  have HR := Lib.hid e2
                  clear e0 e1 e2 hx hy hcells hp
                  go_wp2
                  go_ret2
                  exact ⟨_, by rw [HE.out]; rfl, by rw [HR.out]; exact ⟨none, 0, rfl, by simp, by unfold maxLen; omega, Or.inl rfl⟩, hbw⟩
                | false =>
                  rw [hy] at hce2
                  have HBn : Hid (∀ x, x ∈ ahead l.length i (k + 1) → badM M x.1 x.2 = false) := bad_snoc HB.out (by simp [badM, overM, hy])
                  have HXY : Hid (M i k = true) := hx
                  clear hx hy
                  go_wp2
                  clear hce hce2 hcell
                  go_loop [13, 14, 60] (fun bt _ ct => ∃ j : Nat, j ≤ l.length ∧ ct = .int .i64 j ∧ bt = .bool (anyTo M i k j)) (fun _ _ ct => l.length - (intOf ct).toNat)
                  case atStart => exact ⟨0, Nat.zero_le _, rfl, rfl⟩
                  case round =>
                    obtain ⟨j, hj, rfl, rfl⟩ := hrel
                    by_cases hltj : j < l.length
                    · have hcij := hMr.cell hlt hltj
                      have hcjk := hMr.cell hltj hltk
                      have hrj := hMr.row hltj
                      cases hB : anyTo M i k j with
                      | true =>
                        have HN : Hid (anyTo M i k (j + 1) = true) := by show anyTo M i k (j + 1) = true; rw [anyTo_succ, hB]; rfl
                        go_wp2
                        go_round
                        case rel => exact ⟨j + 1, by omega, by go_num, by rw [HN.out]⟩
                        case measure => simp [intOf]; omega
                      | false =>
                        have hnext : anyTo M i k (j + 1) = betwM M i k j := by rw [anyTo_succ, hB]; rfl
                        cases t1 : ((j : Int) != (i : Int)) with
                        | false =>
                          have HN : Hid (anyTo M i k (j + 1) = false) := by show anyTo M i k (j + 1) = false; rw [hnext]; exact betw_a (by simp at t1; omega)
                          clear hnext hcij hcjk
                          go_wp2
                          go_round
                          case rel => exact ⟨j + 1, by omega, by go_num, by rw [HN.out]⟩
                          case measure => simp [intOf]; omega
                        | true =>
                          cases t2 : ((j : Int) != (k : Int)) with
                          | false =>
                            have HN : Hid (anyTo M i k (j + 1) = false) := by show anyTo M i k (j + 1) = false; rw [hnext]; exact betw_b (by simp at t2; omega)
                            clear hnext hcij hcjk
                            go_wp2
                            go_round
                            case rel => exact ⟨j + 1, by omega, by go_num, by rw [HN.out]⟩
                            case measure => simp [intOf]; omega
                          | true =>
                            cases t3 : M i j with
                            | false =>
                              rw [t3] at hcij
                              have HN : Hid (anyTo M i k (j + 1) = false) := by show anyTo M i k (j + 1) = false; rw [hnext]; exact betw_c t3
                              clear hnext t3 hcjk
                              go_wp2
                              go_round
                              case rel => exact ⟨j + 1, by omega, by go_num, by rw [HN.out]⟩
                              case measure => simp [intOf]; omega
                            | true =>
                              rw [t3] at hcij
                              cases t4 : M j k with
                              | false =>
                                rw [t4] at hcjk
                                have HN : Hid (anyTo M i k (j + 1) = false) := by show anyTo M i k (j + 1) = false; rw [hnext]; exact betw_d t4
                                clear hnext t3 t4
                                go_wp2
                                go_round
                                case rel => exact ⟨j + 1, by omega, by go_num, by rw [HN.out]⟩
                                case measure => simp [intOf]; omega
                              | true =>
                                rw [t4] at hcjk
                                have HN : Hid (anyTo M i k (j + 1) = true) := by show anyTo M i k (j + 1) = true; rw [hnext]; exact betw_e (by simp at t1; omega) (by simp at t2; omega) t3 t4
                                clear hnext t3 t4
                                go_wp2
                                go_round
                                case rel => exact ⟨j + 1, by omega, by go_num, by rw [HN.out]⟩
                                case measure => simp [intOf]; omega
                    · obtain rfl : j = l.length := by omega
                      have hle : (leastTo l M i k).length ≤ 42 := Nat.le_trans (leastTo_le l M i k (by omega) (by omega)) (by have := Nat.mul_le_mul z1 z1; omega)
                      cases hB : anyTo M i k l.length with
                      | true =>
                        have hcov : coverM M l.length i k = false := cover_no hB
                        have HX : Hid (leastTo l M i (k + 1) = leastTo l M i k) := leastTo_miss hcov
                        clear hcov
                        go_wp2
                        go_roundw
                        case rel => exact ⟨k + 1, by omega, by go_num, hbr, by rw [HX.out]; exact hown, HBn⟩
                        case measure => simp [intOf]; omega
                      | false =>
                        have hcov : coverM M l.length i k = true := cover_yes hik HXY.out hB
                        have HX : Hid (leastTo l M i (k + 1) = leastTo l M i k ++ [(l[i], l[k])]) := by
                          show leastTo l M i (k + 1) = _
                          rw [leastTo_hit hcov]; simp [nameAt, List.getD, hlt, hltk]
                        clear hcov
                        have HB2 := Lib.hid hbr
                        clear hMr hr hr2
                        go_wp2_with (at_builtin; refine wpList_append_own _ rfl _ _ 23 rfl w4.heap.size 33 t0 (.agg #[.string ByteArray.empty, .string ByteArray.empty]) 2 32 Tryd.underlying23 hi hz0 hz1 hz2 rfl (by decide) _ _ _ rfl (hown.alloc _) ⟨wr.heap.size, 0, none⟩ 1 1 [.string l[i], .string l[k]] rfl rfl ?c1 ?c2 ?c3 ?c4 ?c5 ?_)
                        case c2 => exact ⟨rfl, rfl⟩
                        case c3 => unfold maxLen; omega
                        case c4 => omega
                        case c5 => have := hbr.size; simp; omega
                        · intro v' w5 hown' hgrow _
                          go_wp2
                          go_roundw
                          case rel =>
                            refine ⟨k + 1, by omega, by go_num, (HB2.out.alloc HB2.out.size _).grown hgrow (by have := HB2.out.size; simp; omega) (fun q hq => (hown.lt q hq).1), ?_, HBn⟩
                            rw [HX.out]
                            simpa [pairCells] using hown'
                          case measure => simp [intOf]; omega
          · obtain rfl : k = l.length := by omega
            go_wp2
            go_roundw
            case rel => exact ⟨i + 1, by omega, by go_num, hbr, by rw [← leastTo_row]; exact hown, by rw [← ahead_row]; exact HB⟩
            case measure => simp [intOf]; omega
      · obtain rfl : i = l.length := by omega
        have e0 : ringM l (closM l acts) = false := by
          rw [HMM.out]
          unfold ringM
          rw [List.any_eq_false]
          intro x hx
          rw [HB.out x hx]
          simp
        have e1 : leastE l acts = 0 := by unfold leastE; rw [if_neg (by have := HC.out; omega), e0]; rfl
        have e2 : leastR l acts = leastTo l M l.length 0 := by unfold leastR; rw [if_pos e1, HMM.out]
        have HE := Lib.hid e1
        have HR := Lib.hid e2
        clear e0 e1 e2 hcells hp
        go_wp2
        go_ret2
        exact ⟨_, by rw [HE.out]; rfl, by rw [HR.out]; exact Prs.of_owns hown, hbw⟩
  · have e1 : leastE l acts = checkC l acts := by unfold leastE; rw [if_pos hc]
    have e2 : leastR l acts = [] := by unfold leastR; rw [if_neg (by omega)]
    rw [e1, e2]
    have hc' : (checkC l acts == 0) = false := by simpa using hc
    have hc2 : (checkC l acts != 0) = true := by simpa using hc
    clear e1 e2
    go_enter Tryd.func8, Tryd.ntmps8
    go_wp2_with (go_at_call 18; refine (check_calls l acts _ _ _ hv hu).mono ?_; rintro e w1 ⟨rfl, hb1⟩)
    go_ret2
    exact ⟨_, rfl, ⟨none, 0, rfl, by simp, by unfold maxLen; omega, Or.inl rfl⟩, hb1⟩
end Go.Proofs.YtfbieagkhbmgjaaDoor
