/-
  label.Less.
-/
import Derived.Test.YtjjlkckhbhgmoaaLessA
import Derived.Deep.RegionHeld3
namespace Go.Proofs.Ytjjlkckhbhgmoaa
open Go.RowKit Go.Sort Go.Maps
set_option linter.unusedVariables false
set_option linter.unusedSimpArgs false

def lessR (l : List Txt) (acts : List (Txt × Txt)) (x : Lab) (by_ : List Txt) : Lab := if lessE l acts x by_ = 0 then lessL (mayB l acts) x by_ else []

set_option maxHeartbeats 4000000 in
set_option maxRecDepth 100000 in
theorem less_calls (l : List Txt) (acts : List (Txt × Txt)) (x : Lab) (by_ : List Txt) (v u t vb : Value) (w : World) (hv : Strs w l v) (hu : Prs w acts u) (ht : Lbl w x t) (hb : Strs w by_ vb) (hl : okList okTxt l) (hxo : okLab x) (hbo : okList okTxt by_) :
    Calls Try.prog 6 #[v, u, t, vb] w fun e w' => ∃ y, e = .returned (.tuple #[y, .int .i64 (lessE l acts x by_)]) ∧ Lbl w' (lessR l acts x by_) y ∧ Below w.heap.size w w' := by
  have hv0 := hv
  obtain ⟨b0, o0, c0, p0, rfl, _⟩ := hv.cells
  obtain ⟨b1, o1, c1, p1, rfl, _⟩ := hu.cells
  obtain ⟨b2, o2, c2, p2, rfl, _⟩ := ht.cells
  obtain ⟨b3, o3, c3, p3, rfl, hlcb, hcmb, hpb, hcellsb⟩ := hb.cells
  obtain ⟨W1, eW⟩ : ∃ W1, w.alloc (.cells #[.slice p3 by_.length c3] 22) = W1 := ⟨_, rfl⟩
  obtain ⟨z1, hW, m1⟩ := boxes1 eW
  have hbx := m1 0
  simp only [List.getElem?_toArray, List.getElem?_cons_zero] at hbx
  have HW := Lib.hid hW
  have HZ := Lib.hid z1
  have HBX := Lib.hid hbx
  clear m1 hW z1
  by_cases he : labE l acts x = 0
  · obtain ⟨hc, hq⟩ := labE_check he
    have hz := labErr_zero hq
    have HC := Lib.hid hc
    have HE := Lib.hid he
    have HL := Lib.hid hl
    by_cases h6 : 6 < by_.length
    · have HX : Hid (lessE l acts x by_ = 2 ∧ lessR l acts x by_ = []) := by
        have e : lessE l acts x by_ = 2 := by unfold lessE; rw [if_neg (by omega), if_pos h6]
        exact ⟨e, by unfold lessR; rw [e]; rfl⟩
      have h6' : (6 : Int) < (by_.length : Int) := by omega
      clear hc hq hz hl
      go_enter Try.func6, Try.ntmps6
      go_wp2_with (fail)
      refine (labCheck_calls l acts x _ _ _ _ (hv0.stays (keeps_of_below HW.out)) (hu.stays (keeps_of_below HW.out)) (ht.stays (keeps_of_below HW.out))).mono ?_
      rintro e w1 ⟨rfl, hb1⟩
      rw [he]
      have hbx1 : w1.cell? ⟨w.heap.size, 0, none⟩ = some (.slice p3 by_.length c3) := (hb1.cell (cell_lt HBX.out)).trans HBX.out
      clear he
      go_wp2
      go_ret2
      exact ⟨_, by rw [HX.out.1]; rfl, by rw [HX.out.2]; exact nilL _, HW.out.trans (hb1.mono HW.out.size)⟩
    · have h6' : ¬ (6 : Int) < (by_.length : Int) := by omega
      have HN : Hid (x.length ≤ 1000 ∧ ∀ p ∈ x, p.2.length ≤ 1048576) := ⟨by omega, fun p hp => by have := (hz.2 p hp).1; omega⟩
      have HE6 : Hid (¬ 6 < by_.length) := h6
      clear hc hq hz hl
      go_enter Try.func6, Try.ntmps6
      go_wp2_with (fail)
      refine (labCheck_calls l acts x _ _ _ _ (hv0.stays (keeps_of_below HW.out)) (hu.stays (keeps_of_below HW.out)) (ht.stays (keeps_of_below HW.out))).mono ?_
      rintro e w1 ⟨rfl, hb1⟩
      rw [he]
      have hbx1 : w1.cell? ⟨w.heap.size, 0, none⟩ = some (.slice p3 by_.length c3) := (hb1.cell (cell_lt HBX.out)).trans HBX.out
      have HB1 := Lib.hid (HW.out.trans (hb1.mono HW.out.size))
      have HB11 := Lib.hid hb1
      clear he hb1
      go_wp2
      go_loopw [12, 26] (fun _ i wr => ∃ (k : Nat) (wo : World), k ≤ by_.length ∧ i = .int .i64 k ∧ wo = wr ∧ Below w1.heap.size w1 wo ∧ Hid (∀ j (hj : j < by_.length), j < k → has l by_[j] = true)) (fun _ i _ => by_.length - (intOf i).toNat)
      case atStart => exact ⟨0, _, Nat.zero_le _, rfl, rfl, Below.refl _ _, fun j _ hj => absurd hj (Nat.not_lt_zero _)⟩
      case round =>
        clear hbx1
        obtain ⟨k, wo, hk, rfl, rfl, hbr, HK⟩ := hrel
        have hbw : Below w.heap.size w wo := HB1.out.trans (hbr.mono HB1.out.size)
        by_cases hlt : k < by_.length
        · have g0 := hcellsb k hlt
          have g0' : wo.cell? ⟨b3, o3 + k, none⟩ = some (.string by_[k]) := (hbw.cell (cell_lt g0)).trans g0
          obtain rfl := hpb (by omega)
          cases hh : has l by_[k] with
          | false =>
            have HX : Hid (lessE l acts x by_ = 5 ∧ lessR l acts x by_ = []) := by
              have e : lessE l acts x by_ = 5 := by
                unfold lessE
                rw [if_neg (by rw [HE.out]; simp), if_neg HE6.out, if_neg]
                intro e
                have := List.all_eq_true.1 e _ (List.getElem_mem hlt)
                rw [hh] at this; cases this
              exact ⟨e, by unfold lessR; rw [e]; rfl⟩
            have HBW := Lib.hid hbw
            clear hcellsb g0 hpb hbw
            go_wp2_with (fail)
            refine (contains_calls l by_[k] _ _ (hv0.stays (keeps_of_below HBW.out))).mono ?_
            rintro e w2 ⟨rfl, rfl⟩
            rw [hh]
            clear hh
            go_wp2
            go_ret2
            exact ⟨_, by rw [HX.out.1]; rfl, by rw [HX.out.2]; exact nilL _, HBW.out⟩
          | true =>
            have HBW := Lib.hid hbw
            have HH := Lib.hid hh
            clear g0 hbw
            go_wp2_with (fail)
            refine (contains_calls l by_[k] _ _ (hv0.stays (keeps_of_below HBW.out))).mono ?_
            rintro e w2 ⟨rfl, rfl⟩
            rw [hh]
            clear hh
            go_wp2
            go_roundw
            case rel =>
              refine ⟨k + 1, _, by omega, by go_num, rfl, hbr, fun j hj hj' => ?_⟩
              by_cases e : j = k
              · subst e; exact HH.out
              · exact HK.out j hj (by omega)
            case measure => simp [intOf]; omega
        · obtain rfl : k = by_.length := by omega
          have HX : Hid (lessE l acts x by_ = 0 ∧ lessR l acts x by_ = lessL (mayB l acts) x by_) := by
            have e : lessE l acts x by_ = 0 := lessE_of HE.out (by have := HE6.out; omega) fun s hs => by
              obtain ⟨j, hj, rfl⟩ := List.getElem_of_mem hs
              exact HK.out j hj hj
            exact ⟨e, by unfold lessR; rw [if_pos e]⟩
          have HBW := Lib.hid hbw
          have HB1o := Lib.hid (HB11.out.trans (hbr.mono HB11.out.size))
          clear hcellsb hpb hbw hbr HK
          go_wp2_with (fail)
          refine (among_calls l acts _ _ _ (hv0.stays (keeps_of_below HBW.out)) (hu.stays (keeps_of_below HBW.out)) HC.out HL.out).mono ?_
          rintro e w2 ⟨r, rfl, hp2, hb2⟩
          generalize mayB l acts = q at *
          obtain ⟨W3, eW3⟩ : ∃ W3, w2.alloc (.cells #[.slice p0 l.length c0, .map (some r)] 53) = W3 := ⟨_, rfl⟩
          obtain ⟨z3, hW3, m3⟩ := boxes1 eW3
          have hm0 := m3 0
          have hm1 := m3 1
          simp only [List.getElem?_toArray, List.getElem?_cons_zero, List.getElem?_cons_succ] at hm0 hm1
          have hbw2 : Below w.heap.size w w2 := HBW.out.trans (hb2.mono HBW.out.size)
          have HB3 := Lib.hid (hbw2.trans (hW3.mono hbw2.size))
          have hb12 := HB1o.out.trans (hb2.mono HB1o.out.size)
          have HB13 := Lib.hid (hb12.trans (hW3.mono hb12.size))
          have HP3 := Lib.hid (hp2.below hW3)
          have HZ3 := Lib.hid z3
          have HM0 := Lib.hid hm0
          have HM1 := Lib.hid hm1
          have hlt3 : w2.heap.size < W3.heap.size := by omega
          have HBX3 : Hid (W3.cell? ⟨w.heap.size, 0, none⟩ = some (.slice p3 by_.length c3)) := (HB13.out.cell (cell_lt HBX.out)).trans HBX.out
          have eg : ∀ args w, (callFunc 25 args).run Try.prog w = .ok (.enter 25 args) w := enters_at Try.func25 (by kernel_rfl) rfl
          have HEG := Lib.hid eg
          have HCL : Hid (∀ W, Below W3.heap.size W3 W → Calls Try.prog 24 #[.slice p2 x.length c2] W fun e w' => ∃ v' d, e = .returned v' ∧ d.map Prod.fst = x ∧ PolRow W.heap.size w' v' d ∧ Below W.heap.size W w') := fun W hW =>
            cloneL_calls x _ W (ht.stays (keeps_of_below (HB3.out.trans (hW.mono HB3.out.size)))) (by have := HN.out.1; omega)
          have HDQ : Hid (∀ W, Below W3.heap.size W3 W → ∀ p ∈ x, ∀ vr, Strs W p.2 vr → Calls Try.prog 25 #[.agg #[.string p.1, vr], .pointer (some ⟨w.heap.size, 0, none⟩), .pointer (some ⟨w2.heap.size, 0, none⟩)] W fun e w' => e = .returned (.bool (leftOut q by_ p)) ∧ Below W.heap.size W w') := fun W hW p hp vr hs =>
            lessF_calls q _ r by_ p vr _ w2.heap.size w.heap.size W (HP3.out.below hW) hbo (hxo p hp) hs (hb.stays (keeps_of_below (HB3.out.trans (hW.mono HB3.out.size)))) ((hW.cell (cell_lt HBX3.out)).trans HBX3.out)
              ((hW.cell (cell_lt HM0.out)).trans HM0.out) ((hW.cell (cell_lt HM1.out)).trans HM1.out)
          have HDEL : Hid (∀ w6 v6 d, d.map Prod.fst = x → PolRow W3.heap.size w6 v6 d → Below W3.heap.size W3 w6 → Calls Try.prog 23 #[v6, .func (.func 25) #[] #[.pointer (some ⟨w.heap.size, 0, none⟩), .pointer (some ⟨w2.heap.size, 0, none⟩)]] w6 fun e w' => ∃ v', e = .returned v' ∧
              Lbl w' (x.filter fun p => !leftOut q by_ p) v' ∧ Below W3.heap.size W3 w') := fun w6 v6 d hd hrow hb6 =>
            (deleteL_calls W3.heap.size v6 d w6 _ #[.pointer (some ⟨w.heap.size, 0, none⟩), .pointer (some ⟨w2.heap.size, 0, none⟩)] (leftOut q by_) hrow (by have := congrArg List.length hd; simp at this; have := HN.out.1; omega) HEG.out (fun W hg y hy vr hs =>
              HDQ.out W (hb6.grown hg hb6.size fun k hk => (hrow.1.lt k hk).1) y.1 (by rw [← hd]; exact List.mem_map_of_mem hy) vr hs)).mono fun e w' ⟨v', he, hl, hg⟩ => ⟨v', he, by rw [hd] at hl; exact hl, hb6.grown hg hb6.size fun k hk => (hrow.1.lt k hk).1⟩
          have HNO : Hid (∀ w7 v7, Lbl w7 (x.filter fun p => !leftOut q by_ p) v7 → Below W3.heap.size W3 w7 → Calls Try.prog 22 #[.agg #[.slice p0 l.length c0, .map (some r)], v7] w7 fun e w' => ∃ v', e = .returned v' ∧ Lbl w' (lessL q x by_) v' ∧ Below W3.heap.size W3 w') := fun w7 v7 hl7 hb7 =>
            (wnormal_calls q _ r _ v7 w7 (HP3.out.below hb7) (fun p hp => hxo p (List.mem_filter.1 hp).1) hl7 (Nat.le_trans (List.length_filter_le _ _) HN.out.1) (fun p hp => HN.out.2 p (List.mem_filter.1 hp).1)).mono fun e w' ⟨v', he, hl, hb8⟩ => ⟨v', he, hl, hb7.trans (hb8.mono hb7.size)⟩
          have hc1 := HM0.out
          have hc2 := HM1.out
          clear m3 hW3 hp2 hb2 hbw2 hb12 eg hlt HDQ HP3 hm0 hm1
          go_wp2
          go_region_held3 (fun w' => w'.cell? ⟨w2.heap.size, 0, none⟩ = some (.slice p0 l.length c0) ∧ w'.cell? ⟨w2.heap.size, 1, none⟩ = some (.map (some r)))
            (first | exact ⟨hc1, hc2⟩ | exact ⟨hc61, hc62⟩ | exact ⟨hc71, hc72⟩ | exact ⟨hc81, hc82⟩)
            (first
              | (go_at_call 24
                 refine (HCL.out _ (Below.refl _ _).drew).mono ?_
                 rintro e w6 ⟨v6, d, rfl, hd, hrow, hb6⟩
                 have hb6' : Below W3.heap.size W3 w6 := (Below.refl W3.heap.size W3).drew.trans hb6
                 have hc61 : w6.cell? ⟨w2.heap.size, 0, none⟩ = some (.slice p0 l.length c0) := (hb6'.cell (p := ⟨w2.heap.size, 0, none⟩) hlt3).trans hc1
                 have hc62 : w6.cell? ⟨w2.heap.size, 1, none⟩ = some (.map (some r)) := (hb6'.cell (p := ⟨w2.heap.size, 1, none⟩) hlt3).trans hc2)
              | (go_at_call 23
                 refine (HDEL.out _ v6 d hd hrow hb6').mono ?_
                 rintro e w7 ⟨v7, rfl, hl7, hb7⟩
                 have hc71 : w7.cell? ⟨w2.heap.size, 0, none⟩ = some (.slice p0 l.length c0) := (hb7.cell (p := ⟨w2.heap.size, 0, none⟩) hlt3).trans hc1
                 have hc72 : w7.cell? ⟨w2.heap.size, 1, none⟩ = some (.map (some r)) := (hb7.cell (p := ⟨w2.heap.size, 1, none⟩) hlt3).trans hc2)
              | (go_at_call 22
                 refine (HNO.out _ v7 hl7 hb7).mono ?_
                 rintro e w8 ⟨v8, rfl, hl8, hb8⟩
                 have hc81 : w8.cell? ⟨w2.heap.size, 0, none⟩ = some (.slice p0 l.length c0) := (hb8.cell (p := ⟨w2.heap.size, 0, none⟩) hlt3).trans hc1
                 have hc82 : w8.cell? ⟨w2.heap.size, 1, none⟩ = some (.map (some r)) := (hb8.cell (p := ⟨w2.heap.size, 1, none⟩) hlt3).trans hc2))
          all_goals (try go_wp2)
          all_goals go_ret2
          all_goals exact ⟨_, by rw [HX.out.1]; rfl, by rw [HX.out.2]; exact hl8, HB3.out.trans (hb8.mono HB3.out.size)⟩
  · have HX : Hid (lessE l acts x by_ = labE l acts x ∧ lessR l acts x by_ = []) := by
      have e : lessE l acts x by_ = labE l acts x := by unfold lessE; rw [if_pos he]
      exact ⟨e, by unfold lessR; rw [e, if_neg he]⟩
    have hq : (labE l acts x != 0) = true := by simpa using he
    have hq2 : (labE l acts x == 0) = false := by simpa using he
    clear he
    go_enter Try.func6, Try.ntmps6
    go_wp2_with (fail)
    refine (labCheck_calls l acts x _ _ _ _ (hv0.stays (keeps_of_below HW.out)) (hu.stays (keeps_of_below HW.out)) (ht.stays (keeps_of_below HW.out))).mono ?_
    rintro e w1 ⟨rfl, hb1⟩
    go_wp2
    go_ret2
    exact ⟨_, by rw [HX.out.1]; rfl, by rw [HX.out.2]; exact nilL _, HW.out.trans (hb1.mono HW.out.size)⟩
end Go.Proofs.Ytjjlkckhbhgmoaa
