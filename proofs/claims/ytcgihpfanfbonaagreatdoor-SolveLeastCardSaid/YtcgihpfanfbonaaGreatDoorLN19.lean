/-
  sort.pdqsort_func under a less that lays blocks.
-/
import Derived.Test.YtcgihpfanfbonaaGreatDoorLN12
import Derived.Test.YtcgihpfanfbonaaGreatDoorLN14
import Derived.Test.YtcgihpfanfbonaaGreatDoorLN15
import Derived.Test.YtcgihpfanfbonaaGreatDoorLN16
import Derived.Test.YtcgihpfanfbonaaGreatDoorLN17
import Derived.Test.YtcgihpfanfbonaaGreatDoorLN18
import Derived.Sort.Walk13a
import Derived.Sort.AssemblyPlain
import Derived.Deep.LoopGhost
import Derived.Deep.Cut
namespace Go.Proofs.YtcgihpfanfbonaaGreatDoor
open Go.RowKit Go.Sort
set_option linter.unusedVariables false
set_option linter.unusedSimpArgs false
section
variable {α : Type} [Inhabited α] {enc : α → Value} {lt : α → α → Bool} {g sf blk off size : Nat} {lb sb : Array Value} {w0 : World}

theorem hintV_two {h : Hint} (e : hintV h = 2) : h = .decreasing := by cases h <;> simp [hintV] at e ⊢
theorem eighthQ {x y p q : Nat} (h1 : q ≤ p) (h2 : y ≤ x) : decide (((x : Int) - (y : Int)) / 8 ≤ (p : Int) - (q : Int)) = decide (p - q ≥ (x - y) / 8) := by
  rw [decide_eq_decide]
  omega
set_option maxHeartbeats 32000000 in
set_option maxRecDepth 1000000 in
theorem pdqF_calls (hO : SWO lt) (S : Sorter enc lt g lb sf sb w0 blk off size) : ∀ (N a b limit : Nat) (d : Array α) (W : World), b - a < N → RowAt enc w0 blk off size d W → a ≤ b → b ≤ size → limit < 4611686018427387904 → Go.Sort.Below lt a b d →
    Calls Tryz.prog 81 #[.agg #[.func (.func g) #[] lb, .func (.func sf) #[] sb], .int .i64 a, .int .i64 b, .int .i64 limit] W fun e w' =>
      e = .returned (.tuple #[]) ∧ RowAt enc w0 blk off size (pdq lt d a b limit true true) w' ∧ W.grownBy w' (some blk) := by
  intro N
  induction N with
  | zero => intro _ _ _ _ _ h; exact absurd h (Nat.not_lt_zero _)
  | succ N ih =>
    intro a b limit d W hN hA hab hb hlimit hBel0
    have IH := Lib.hid ih
    have HBel0 := Lib.hid hBel0
    have HSW := Lib.hid hO
    clear ih hBel0 hO
    obtain ⟨W1, eW⟩ : ∃ W1, W.alloc (.cells #[.func (.func g) #[] lb, .func (.func sf) #[] sb] 130) = W1 := ⟨_, rfl⟩
    obtain ⟨z1, hW, m1⟩ := boxes1 eW
    have c0 := m1 0
    have c1 := m1 1
    simp only [List.getElem?_toArray, List.getElem?_cons_zero, List.getElem?_cons_succ] at c0 c1
    have hbk : blk < W.heap.size := hA.there S.low
    have HA1 : Hid (RowAt enc w0 blk off size d W1) := hA.below S.low hW
    have HG1 : Hid (W.grownBy W1 (some blk)) := grown_below (World.grownBy.refl _ _) hW
    have HNE : Hid (W.heap.size ≠ blk) := by unfold Hid; omega
    have HS := Lib.hid S
    have hsm := S.small
    have eg := S.eg
    have HC0 := Lib.hid c0
    have HC1 := Lib.hid c1
    clear m1 z1 hW c0 c1 S hA
    go_enter Tryz.func81, Tryz.ntmps81
    go_wp2
    go_loopg [1, 2, 3, 8, 9] (b - a) (fun k s1 s2 s3 s8 s9 wr => ∃ (a' b' lim : Nat) (wb wp : Bool) (dk : Array α), s1 = .int .i64 a' ∧ s2 = .int .i64 b' ∧ s3 = .int .i64 lim ∧ s8 = .bool wb ∧ s9 = .bool wp ∧
      a' ≤ b' ∧ b' ≤ size ∧ b' - a' ≤ k ∧ k ≤ b - a ∧ lim ≤ limit ∧ Hid (Go.Sort.Below lt a' b' dk) ∧ Hid (RowAt enc w0 blk off size dk wr) ∧ Hid (W1.grownBy wr (some blk)) ∧ Hid (pdq lt dk a' b' lim wb wp = pdq lt d a b limit true true))
    case atStart => exact ⟨a, b, limit, true, true, d, rfl, rfl, rfl, rfl, rfl, hab, hb, Nat.le_refl _, Nat.le_refl _, Nat.le_refl _, HBel0, HA1, World.grownBy.refl _ _, rfl⟩
    case round =>
      obtain ⟨a', b', lim, wb, wp, dk, rfl, rfl, rfl, rfl, rfl, hab', hb', hk, hkN, hlim, HBel, HAr, HGr, HEQ⟩ := hrel
      have x0 := box_grown HGr.out HC0.out HNE.out
      have x1 := box_grown HGr.out HC1.out HNE.out
      by_cases h12 : b' - a' ≤ 12
      · have h12z : (b' : Int) - (a' : Int) ≤ 12 := by omega
        have HCC := Lib.hid (insF_calls HS.out a' b' dk wr HAr.out hab' hb')
        go_wp2_with (fail)
        refine HCC.out.mono ?_
        rintro e w2 ⟨rfl, hA2, hG2⟩
        have HA2 := Lib.hid hA2
        have HG2 := Lib.hid (grown_grown HGr.out hG2)
        clear hA2 hG2
        go_wp2
        refine bodyPost_ret (v := .tuple #[]) ?_ rfl ⟨rfl, by rw [← HEQ.out, pdq_small h12]; exact HA2.out, grown_grown HG1.out HG2.out⟩
        simp [results, Tryz.results81, go_sem]
      · have h12z : ¬ ((b' : Int) - (a' : Int) ≤ 12) := by omega
        by_cases hl0 : lim = 0
        · subst hl0
          have HCC := Lib.hid (heapF_calls HS.out a' b' dk wr HAr.out (by omega) hb')
          go_wp2_with (fail)
          refine HCC.out.mono ?_
          rintro e w2 ⟨rfl, hA2, hG2⟩
          have HA2 := Lib.hid hA2
          have HG2 := Lib.hid (grown_grown HGr.out hG2)
          clear hA2 hG2
          go_wp2
          refine bodyPost_ret (v := .tuple #[]) ?_ rfl ⟨rfl, by rw [← HEQ.out, pdq_heap h12 rfl]; exact HA2.out, grown_grown HG1.out HG2.out⟩
          simp [results, Tryz.results81, go_sem]
        · have hl0z : ¬ ((lim : Int) = 0) := by omega
          have hl0b : ((lim : Int) == 0) = false := beq_eq_false_iff_ne.2 hl0z
          have hds := HAr.out.size
          obtain ⟨s1, B1, hc1, s2, B2, hpv, s3, B3⟩ := rd_facts (lt := lt) (limit := lim) (wb := wb) (wp := wp) HSW.out partialInsertionSort_holds reverseRange_holds (show a' < b' by omega) (show b' ≤ dk.size by omega) HBel.out
          have HB3 := Lib.hid B3
          clear B1 B2 B3
          go_upto_if 35 with fail
          go_cut [3] from 19 (fun s3 wc => s3 = .int .i64 (rd lt dk a' b' lim wb wp).lim ∧ Hid (RowAt enc w0 blk off size (rd lt dk a' b' lim wb wp).d1 wc) ∧ Hid (W1.grownBy wc (some blk)))
          case first =>
            cases wb
            · have HCC := Lib.hid (breakF_calls HS.out a' b' dk wr HAr.out hab' hb' s1)
              go_wp2_with (fail)
              refine HCC.out.mono ?_
              rintro e w2 ⟨rfl, hA2, hG2⟩
              have HA2 := Lib.hid hA2
              have HG2 := Lib.hid (grown_grown HGr.out hG2)
              clear hA2 hG2
              go_wp2
              go_meet
              case rel => exact ⟨by show Value.int .i64 ((lim : Int) - 1) = Value.int .i64 ((lim - 1 : Nat) : Int); congr 1; omega, HA2, HG2⟩
            · go_wp2_with fail
              go_meet
              case rel => exact ⟨rfl, HAr, HGr⟩
          case rest =>
            obtain ⟨rfl, HA1c, HG1c⟩ := hcut
            clear x0 x1
            have x0 := box_grown HG1c.out HC0.out HNE.out
            have x1 := box_grown HG1c.out HC1.out HNE.out
            have HCC : Hid (Calls Tryz.prog 119 #[.agg #[.func (.func g) #[] lb, .func (.func sf) #[] sb], .int .i64 a', .int .i64 b'] wc fun e w' => e = .returned (.tuple #[.int .i64 (rd lt dk a' b' lim wb wp).c.1, .int .i64 (hintV (rd lt dk a' b' lim wb wp).c.2)]) ∧ RowAt enc w0 blk off size (rd lt dk a' b' lim wb wp).d1 w' ∧ wc.grownBy w' (some blk)) :=
              pivotF_calls HS.out a' b' _ wc HA1c.out (by omega) hb'
            go_upto_if 50 with (go_at_call 119; refine HCC.out.mono ?_; rintro e w2 ⟨rfl, hA2, hG2⟩)
            have HA2 := Lib.hid hA2
            have HG2 := Lib.hid (grown_grown HG1c.out hG2)
            clear hA2 hG2 x0 x1
            have x0 := box_grown HG2.out HC0.out HNE.out
            have x1 := box_grown HG2.out HC1.out HNE.out
            go_cut [11, 12] from 19 (fun s11 s12 wc => s11 = .int .i64 (rd lt dk a' b' lim wb wp).pivot ∧ s12 = .int .i64 (hintV (rd lt dk a' b' lim wb wp).hint) ∧ Hid (RowAt enc w0 blk off size (rd lt dk a' b' lim wb wp).d2 wc) ∧ Hid (W1.grownBy wc (some blk)))
            case first =>
              by_cases hh : (rd lt dk a' b' lim wb wp).c.2 = .decreasing
              · have hcode : hintV (rd lt dk a' b' lim wb wp).c.2 = 2 := by rw [hh]; rfl
                obtain ⟨e2, epv, eht⟩ := rd_dec hh
                have HE2 := Lib.hid e2
                have HCC := Lib.hid (revF_calls HS.out a' b' (rd lt dk a' b' lim wb wp).d1 w2 HA2.out (by omega) hb')
                clear e2
                go_wp2_with (fail)
                refine HCC.out.mono ?_
                rintro e w3 ⟨rfl, hA3, hG3⟩
                have HA3 := Lib.hid hA3
                have HG3 := Lib.hid (grown_grown HG2.out hG3)
                clear hA3 hG3
                go_wp2
                go_meet
                case rel =>
                  refine ⟨?_, by rw [eht]; rfl, by rw [HE2.out]; exact HA3, HG3⟩
                  rw [epv]
                  congr 1
                  omega
              · have hcode : ¬ (hintV (rd lt dk a' b' lim wb wp).c.2 = 2) := fun h => hh (hintV_two h)
                have hcodeb : (hintV (rd lt dk a' b' lim wb wp).c.2 == 2) = false := beq_eq_false_iff_ne.2 hcode
                obtain ⟨e2, epv, eht⟩ := rd_not hh
                have HE2 := Lib.hid e2
                clear e2
                go_wp2_with fail
                go_meet
                case rel => exact ⟨by rw [epv], by rw [eht], by rw [HE2.out]; exact HA2, HG2⟩
            case rest =>
              obtain ⟨rfl, rfl, HA3, HG3⟩ := hcut
              clear x0 x1
              have x0 := box_grown HG3.out HC0.out HNE.out
              have x1 := box_grown HG3.out HC1.out HNE.out
              go_upto_region 16 with fail
              go_cut [12, 68] from 19 (fun s12 s68 wx => s12 = .int .i64 (hintV (rd lt dk a' b' lim wb wp).hint) ∧ s68 = .bool (wb && wp && decide ((rd lt dk a' b' lim wb wp).hint = .increasing)) ∧ wx = wc)
              case first =>
                cases wb <;> cases wp <;> cases hh3 : (rd lt dk a' b' lim _ _).hint <;>
                  (have hcode3 := congrArg hintV hh3
                   simp only [hintV] at hcode3
                   go_wp2_with fail
                   go_meet
                   exact ⟨by simp [hh3, hintV], by simp [hh3, hintV], rfl⟩)
              case rest =>
                obtain ⟨rfl, rfl, rfl⟩ := hcut
                go_upto_if 68 with fail
                go_cut [] from 19 (fun wx => (rd lt dk a' b' lim wb wp).pi.2 = false ∧ Hid (RowAt enc w0 blk off size (rd lt dk a' b' lim wb wp).pi.1 wx) ∧ Hid (W1.grownBy wx (some blk)))
                case first =>
                  cases h68 : (wb && wp && decide ((rd lt dk a' b' lim wb wp).hint = .increasing))
                  · have epi := rd_pi_no h68
                    have HEP := Lib.hid epi
                    clear epi
                    go_wp2_with fail
                    go_meet
                    case rel => exact ⟨by rw [HEP.out], by rw [HEP.out]; exact HA3, HG3⟩
                  · have hc19 := partInsF_calls HS.out a' b' (rd lt dk a' b' lim wb wp).d2 _ HA3.out (by omega) hb'
                    rw [← rd_pi_yes h68] at hc19
                    cases hp2 : (rd lt dk a' b' lim wb wp).pi.2 with
                    | false =>
                      rw [hp2] at hc19
                      have HCC := Lib.hid hc19
                      clear hc19
                      go_wp2_with (fail)
                      refine HCC.out.mono ?_
                      rintro e w4 ⟨rfl, hA4, hG4⟩
                      have HA4 := Lib.hid hA4
                      have HG4 := Lib.hid (grown_grown HG3.out hG4)
                      clear hA4 hG4
                      go_wp2
                      go_meet
                      case rel => exact ⟨hp2, HA4, HG4⟩
                    | true =>
                      rw [hp2] at hc19
                      have HCC := Lib.hid hc19
                      clear hc19
                      go_wp2_with (fail)
                      refine HCC.out.mono ?_
                      rintro e w4 ⟨rfl, hA4, hG4⟩
                      have HA4 := Lib.hid hA4
                      have HG4 := Lib.hid (grown_grown HG3.out hG4)
                      clear hA4 hG4
                      go_wp2
                      refine bodyPost_ret (v := .tuple #[]) ?_ rfl ⟨rfl, by rw [← HEQ.out, pdq_done h12 hl0 hp2]; exact HA4.out, grown_grown HG1.out HG4.out⟩
                      simp [results, Tryz.results81, go_sem]
                case rest =>
                  obtain ⟨hp2, HA5, HG5⟩ := hcut
                  clear x0 x1
                  have x0 := box_grown HG5.out HC0.out HNE.out
                  have x1 := box_grown HG5.out HC1.out HNE.out
                  go_upto_region 18 with fail
                  go_cut [83] from 19 (fun s83 wx => s83 = .bool (decide (a' > 0) && !lt (rd lt dk a' b' lim wb wp).pi.1[a' - 1]! (rd lt dk a' b' lim wb wp).pi.1[(rd lt dk a' b' lim wb wp).pivot]!) ∧ Hid (RowAt enc w0 blk off size (rd lt dk a' b' lim wb wp).pi.1 wx) ∧ Hid (W1.grownBy wx (some blk)))
                  case first =>
                    rcases Nat.eq_zero_or_pos a' with ha0 | ha0
                    · have ha0z : decide ((a' : Int) > 0) = false := decide_eq_false (by omega)
                      go_wp2_with fail
                      go_meet
                      case rel => exact ⟨by simp [ha0], HA5, HG5⟩
                    · have ha0z : (a' : Int) > 0 := by omega
                      have hl := HS.out.less _ _ HA5.out (a' - 1) (rd lt dk a' b' lim wb wp).pivot (by omega) (by omega)
                      rw [show ((a' - 1 : Nat) : Int) = (a' : Int) - 1 by omega] at hl
                      cases hlv : lt (rd lt dk a' b' lim wb wp).pi.1[a' - 1]! (rd lt dk a' b' lim wb wp).pi.1[(rd lt dk a' b' lim wb wp).pivot]! <;>
                        (rw [hlv] at hl
                         have HL := Lib.hid hl
                         clear hl
                         go_wp2_with (go_at_fn g; refine HL.out.mono ?_; rintro e w6 ⟨rfl, hb6⟩)
                         go_meet
                         exact ⟨by simp [ha0, hlv], HA5.out.below HS.out.low hb6, grown_below HG5.out hb6⟩)
                  case rest =>
                    obtain ⟨rfl, HA6, HG6⟩ := hcut
                    clear x0 x1
                    have x0 := box_grown HG6.out HC0.out HNE.out
                    have x1 := box_grown HG6.out HC1.out HNE.out
                    cases h87 : (decide (a' > 0) && !lt (rd lt dk a' b' lim wb wp).pi.1[a' - 1]! (rd lt dk a' b' lim wb wp).pi.1[(rd lt dk a' b' lim wb wp).pivot]!)
                    · obtain ⟨mid, ap, d4, hx⟩ : ∃ mid ap d4, partition lt (rd lt dk a' b' lim wb wp).pi.1 a' b' (rd lt dk a' b' lim wb wp).pivot = (mid, ap, d4) := ⟨(partition lt (rd lt dk a' b' lim wb wp).pi.1 a' b' (rd lt dk a' b' lim wb wp).pivot).1, (partition lt (rd lt dk a' b' lim wb wp).pi.1 a' b' (rd lt dk a' b' lim wb wp).pivot).2.1, (partition lt (rd lt dk a' b' lim wb wp).pi.1 a' b' (rd lt dk a' b' lim wb wp).pivot).2.2, rfl⟩
                      obtain ⟨r1, r2, r3, r4, r5, r6, r7⟩ := round_part HSW.out (partition_holds lt) hpv.1 hpv.2 (show b' ≤ (rd lt dk a' b' lim wb wp).pi.1.size by omega) HB3.out hx
                      have hc22 := partF_calls HS.out a' b' (rd lt dk a' b' lim wb wp).pivot (rd lt dk a' b' lim wb wp).pi.1 wc HA6.out (by omega) hb' hpv.1 hpv.2
                      rw [hx] at hc22
                      have HX := Lib.hid hx
                      have HCC := Lib.hid hc22
                      have H4 := Lib.hid r4
                      have H5 := Lib.hid r5
                      have H6 := Lib.hid r6
                      have H7 := Lib.hid r7
                      have H87 := Lib.hid h87
                      clear hx hc22 r4 r5 r6 r7
                      go_upto_if 109 with (go_at_call 123; refine HCC.out.mono ?_; rintro e w7 ⟨rfl, hA7, hG7⟩)
                      have HA7 := Lib.hid hA7
                      have HG7 := Lib.hid (grown_grown HG6.out hG7)
                      clear hA7 hG7 x0 x1
                      have x0 := box_grown HG7.out HC0.out HNE.out
                      have x1 := box_grown HG7.out HC1.out HNE.out
                      have hs4 : d4.size = size := r3.trans (by omega)
                      by_cases h4 : mid - a' < b' - mid
                      · have h4z : (mid : Int) - (a' : Int) < (b' : Int) - (mid : Int) := by omega
                        have HIH := Lib.hid (IH.out a' mid (rd lt dk a' b' lim wb wp).lim d4 w7 (by omega) HA7.out (by omega) (by omega) (Nat.lt_of_le_of_lt (Nat.le_trans rd_lim_le hlim) hlimit) H4.out)
                        obtain ⟨pL, sL⟩ := pdq_sorts lt HSW.out d4 a' mid (rd lt dk a' b' lim wb wp).lim true true (by omega) (by omega) H4.out
                        have HB8 := Lib.hid (H6.out _ pL sL).1
                        clear pL sL
                        go_wp2_with (fail)
                        refine HIH.out.mono ?_
                        rintro e w8 ⟨rfl, hA8, hG8⟩
                        have HA8 := Lib.hid hA8
                        have HG8 := Lib.hid (grown_grown HG7.out hG8)
                        clear hA8 hG8
                        go_wp2
                        go_roundg (b' - (mid + 1))
                        case measure => omega
                        case rel =>
                          have hx := HX.out
                          refine ⟨mid + 1, b', (rd lt dk a' b' lim wb wp).lim, decide (mid - a' ≥ (b' - a') / 8), ap, pdq lt d4 a' mid (rd lt dk a' b' lim wb wp).lim true true, by simp, rfl, rfl, ?_, rfl, by omega, by omega, Nat.le_refl _, by omega, Nat.le_trans rd_lim_le hlim, HB8, HA8, HG8, ?_⟩
                          · exact congrArg Value.bool (eighthQ (by omega) (by omega))
                          · unfold Hid; rw [← HEQ.out, pdq_left h12 hl0 hp2 H87.out (by rw [hx]; exact ⟨r1, r2⟩) (by rw [hx]; exact h4), hx]
                      · have h4z : ¬ ((mid : Int) - (a' : Int) < (b' : Int) - (mid : Int)) := by omega
                        have hih := IH.out (mid + 1) b' (rd lt dk a' b' lim wb wp).lim d4 w7 (by omega) HA7.out (by omega) (by omega) (Nat.lt_of_le_of_lt (Nat.le_trans rd_lim_le hlim) hlimit) H5.out
                        rw [show ((mid + 1 : Nat) : Int) = (mid : Int) + 1 by omega] at hih
                        have HIH := Lib.hid hih
                        clear hih
                        obtain ⟨pL, sL⟩ := pdq_sorts lt HSW.out d4 (mid + 1) b' (rd lt dk a' b' lim wb wp).lim true true (by omega) (by omega) H5.out
                        have HB8 := Lib.hid (H7.out _ pL sL).1
                        clear pL sL
                        go_wp2_with (fail)
                        refine HIH.out.mono ?_
                        rintro e w8 ⟨rfl, hA8, hG8⟩
                        have HA8 := Lib.hid hA8
                        have HG8 := Lib.hid (grown_grown HG7.out hG8)
                        clear hA8 hG8
                        go_wp2
                        go_roundg (mid - a')
                        case measure => omega
                        case rel =>
                          have hx := HX.out
                          refine ⟨a', mid, (rd lt dk a' b' lim wb wp).lim, decide (b' - mid ≥ (b' - a') / 8), ap, pdq lt d4 (mid + 1) b' (rd lt dk a' b' lim wb wp).lim true true, rfl, rfl, rfl, ?_, rfl, by omega, by omega, Nat.le_refl _, by omega, Nat.le_trans rd_lim_le hlim, HB8, HA8, HG8, ?_⟩
                          · exact congrArg Value.bool (eighthQ (by omega) (by omega))
                          · unfold Hid; rw [← HEQ.out, pdq_right h12 hl0 hp2 H87.out (by rw [hx]; exact ⟨r1, r2⟩) (by rw [hx]; exact h4), hx]
                    · have h87' := h87
                      simp only [Bool.and_eq_true, decide_eq_true_eq, Bool.not_eq_true'] at h87'
                      obtain ⟨mid, d4, hx⟩ : ∃ mid d4, partitionEqual lt (rd lt dk a' b' lim wb wp).pi.1 a' b' (rd lt dk a' b' lim wb wp).pivot = (mid, d4) := ⟨(partitionEqual lt (rd lt dk a' b' lim wb wp).pi.1 a' b' (rd lt dk a' b' lim wb wp).pivot).1, (partitionEqual lt (rd lt dk a' b' lim wb wp).pi.1 a' b' (rd lt dk a' b' lim wb wp).pivot).2, rfl⟩
                      obtain ⟨r1, r2, r3, r4, _⟩ := round_eq HSW.out (partitionEqual_holds lt) h87'.1 hpv.1 hpv.2 (show b' ≤ (rd lt dk a' b' lim wb wp).pi.1.size by omega) HB3.out h87'.2 hx
                      have hc21 := partEqF_calls HS.out a' b' (rd lt dk a' b' lim wb wp).pivot (rd lt dk a' b' lim wb wp).pi.1 wc HA6.out (by omega) hb' hpv.1 hpv.2
                      rw [hx] at hc21
                      have HX := Lib.hid hx
                      have HCC := Lib.hid hc21
                      have H4 := Lib.hid r4
                      have H87 := Lib.hid h87
                      clear hx hc21 r4 h87'
                      go_wp2_with (fail)
                      refine HCC.out.mono ?_
                      rintro e w7 ⟨rfl, hA7, hG7⟩
                      have HA7 := Lib.hid hA7
                      have HG7 := Lib.hid (grown_grown HG6.out hG7)
                      clear hA7 hG7
                      go_wp2
                      go_roundg (b' - mid)
                      case measure => omega
                      case rel =>
                        have hx := HX.out
                        exact ⟨mid, b', (rd lt dk a' b' lim wb wp).lim, wb, wp, d4, rfl, rfl, rfl, rfl, rfl, r2, hb', Nat.le_refl _, by omega, Nat.le_trans rd_lim_le hlim, H4, HA7, HG7, by unfold Hid; rw [← HEQ.out, pdq_eq h12 hl0 hp2 H87.out (by rw [hx]; exact ⟨r1, r2⟩), hx]⟩
end
end Go.Proofs.YtcgihpfanfbonaaGreatDoor
