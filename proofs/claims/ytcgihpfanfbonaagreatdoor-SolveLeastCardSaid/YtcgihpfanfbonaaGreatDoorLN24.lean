/-
  label.Less. Normal forms of right labels: the reference finds the program's. Plain law: the document's words and names are the program's. The reference's IsWord and IsName are the program's words and names. The reference's CheckChiefs finds the same error as the program's check. cloisterlaw.badLabels: the first error of some labels; cloisterlaw.LabelFlows: the call returns true.
-/
import Derived.Test.YtcgihpfanfbonaaGreatDoorLN23
import Derived.Deep.RegionHeld3
import Derived.Test.YtcgihpfanfbonaaGreatDoorLN22
import Derived.Test.YtcgihpfanfbonaaGreatDoorLN02
import Derived.Test.YtcgihpfanfbonaaGreatDoorLN00
import Derived.Lib.IndexMore
import Derived.Lib.SlTrimSet
import Derived.Test.YtcgihpfanfbonaaGreatDoorShelf
import Derived.Shelf.Strings.SlTrimAscii
import Derived.Lib.IndexLaws
import Derived.Test.YtcgihpfanfbonaaGreatDoorLN20
namespace Go.Proofs.YtcgihpfanfbonaaGreatDoor
open Go.RowKit Go.Sort Go.Maps
set_option linter.unusedVariables false
set_option linter.unusedSimpArgs false

def lessR (l : List Txt) (acts : List (Txt × Txt)) (x : Lab) (by_ : List Txt) : Lab := if lessE l acts x by_ = 0 then lessL (mayB l acts) x by_ else []

set_option maxHeartbeats 4000000 in
set_option maxRecDepth 100000 in
theorem less_calls (l : List Txt) (acts : List (Txt × Txt)) (x : Lab) (by_ : List Txt) (v u t vb : Value) (w : World) (hv : Strs w l v) (hu : Prs w acts u) (ht : Lbl w x t) (hb : Strs w by_ vb) (hl : okList okTxt l) (hxo : okLab x) (hbo : okList okTxt by_) :
    Calls Tryz.prog 8 #[v, u, t, vb] w fun e w' => ∃ y, e = .returned (.tuple #[y, .int .i64 (lessE l acts x by_)]) ∧ Lbl w' (lessR l acts x by_) y ∧ Below w.heap.size w w' := by
  have hv0 := hv
  obtain ⟨b0, o0, c0, p0, rfl, _⟩ := hv.cells
  obtain ⟨b1, o1, c1, p1, rfl, _⟩ := hu.cells
  obtain ⟨b2, o2, c2, p2, rfl, _⟩ := ht.cells
  obtain ⟨b3, o3, c3, p3, rfl, hlcb, hcmb, hpb, hcellsb⟩ := hb.cells
  obtain ⟨W1, eW⟩ : ∃ W1, w.alloc (.cells #[.slice p3 by_.length c3] 22) = W1 := ⟨_, rfl⟩
  obtain ⟨z1, hW, m1⟩ := boxes1 eW
  have hbx := m1 0
  simp only [List.getElem?_toArray, List.getElem?_cons_zero] at hbx
  have HW := Lib.hid hW
  have HZ := Lib.hid z1
  have HBX := Lib.hid hbx
  clear m1 hW z1
  by_cases he : labE l acts x = 0
  · obtain ⟨hc, hq⟩ := labE_check he
    have hz := labErr_zero hq
    have HC := Lib.hid hc
    have HE := Lib.hid he
    have HL := Lib.hid hl
    by_cases h6 : 6 < by_.length
    · have HX : Hid (lessE l acts x by_ = 2 ∧ lessR l acts x by_ = []) := by
        have e : lessE l acts x by_ = 2 := by unfold lessE; rw [if_neg (by omega), if_pos h6]
        exact ⟨e, by unfold lessR; rw [e]; rfl⟩
      have h6' : (6 : Int) < (by_.length : Int) := by omega
      clear hc hq hz hl
      go_enter Tryz.func8, Tryz.ntmps8
      go_wp2_with (fail)
      refine (labCheck_calls l acts x _ _ _ _ (hv0.stays (keeps_of_below HW.out)) (hu.stays (keeps_of_below HW.out)) (ht.stays (keeps_of_below HW.out))).mono ?_
      rintro e w1 ⟨rfl, hb1⟩
      rw [he]
      have hbx1 : w1.cell? ⟨w.heap.size, 0, none⟩ = some (.slice p3 by_.length c3) := (hb1.cell (cell_lt HBX.out)).trans HBX.out
      clear he
      go_wp2
      go_ret2
      exact ⟨_, by rw [HX.out.1]; rfl, by rw [HX.out.2]; exact nilL _, HW.out.trans (hb1.mono HW.out.size)⟩
    · have h6' : ¬ (6 : Int) < (by_.length : Int) := by omega
      have HN : Hid (x.length ≤ 1000 ∧ ∀ p ∈ x, p.2.length ≤ 1048576) := ⟨by omega, fun p hp => by have := (hz.2 p hp).1; omega⟩
      have HE6 : Hid (¬ 6 < by_.length) := h6
      clear hc hq hz hl
      go_enter Tryz.func8, Tryz.ntmps8
      go_wp2_with (fail)
      refine (labCheck_calls l acts x _ _ _ _ (hv0.stays (keeps_of_below HW.out)) (hu.stays (keeps_of_below HW.out)) (ht.stays (keeps_of_below HW.out))).mono ?_
      rintro e w1 ⟨rfl, hb1⟩
      rw [he]
      have hbx1 : w1.cell? ⟨w.heap.size, 0, none⟩ = some (.slice p3 by_.length c3) := (hb1.cell (cell_lt HBX.out)).trans HBX.out
      have HB1 := Lib.hid (HW.out.trans (hb1.mono HW.out.size))
      have HB11 := Lib.hid hb1
      clear he hb1
      go_wp2
      go_loopw [12, 26] (fun _ i wr => ∃ (k : Nat) (wo : World), k ≤ by_.length ∧ i = .int .i64 k ∧ wo = wr ∧ Below w1.heap.size w1 wo ∧ Hid (∀ j (hj : j < by_.length), j < k → has l by_[j] = true)) (fun _ i _ => by_.length - (intOf i).toNat)
      case atStart => exact ⟨0, _, Nat.zero_le _, rfl, rfl, Below.refl _ _, fun j _ hj => absurd hj (Nat.not_lt_zero _)⟩
      case round =>
        clear hbx1
        obtain ⟨k, wo, hk, rfl, rfl, hbr, HK⟩ := hrel
        have hbw : Below w.heap.size w wo := HB1.out.trans (hbr.mono HB1.out.size)
        by_cases hlt : k < by_.length
        · have g0 := hcellsb k hlt
          have g0' : wo.cell? ⟨b3, o3 + k, none⟩ = some (.string by_[k]) := (hbw.cell (cell_lt g0)).trans g0
          obtain rfl := hpb (by omega)
          cases hh : has l by_[k] with
          | false =>
            have HX : Hid (lessE l acts x by_ = 5 ∧ lessR l acts x by_ = []) := by
              have e : lessE l acts x by_ = 5 := by
                unfold lessE
                rw [if_neg (by rw [HE.out]; simp), if_neg HE6.out, if_neg]
                intro e
                have := List.all_eq_true.1 e _ (List.getElem_mem hlt)
                rw [hh] at this; cases this
              exact ⟨e, by unfold lessR; rw [e]; rfl⟩
            have HBW := Lib.hid hbw
            clear hcellsb g0 hpb hbw
            go_wp2_with (fail)
            refine (contains_calls l by_[k] _ _ (hv0.stays (keeps_of_below HBW.out))).mono ?_
            rintro e w2 ⟨rfl, rfl⟩
            rw [hh]
            clear hh
            go_wp2
            go_ret2
            exact ⟨_, by rw [HX.out.1]; rfl, by rw [HX.out.2]; exact nilL _, HBW.out⟩
          | true =>
            have HBW := Lib.hid hbw
            have HH := Lib.hid hh
            clear g0 hbw
            go_wp2_with (fail)
            refine (contains_calls l by_[k] _ _ (hv0.stays (keeps_of_below HBW.out))).mono ?_
            rintro e w2 ⟨rfl, rfl⟩
            rw [hh]
            clear hh
            go_wp2
            go_roundw
            case rel =>
              refine ⟨k + 1, _, by omega, by go_num, rfl, hbr, fun j hj hj' => ?_⟩
              by_cases e : j = k
              · subst e; exact HH.out
              · exact HK.out j hj (by omega)
            case measure => simp [intOf]; omega
        · obtain rfl : k = by_.length := by omega
          have HX : Hid (lessE l acts x by_ = 0 ∧ lessR l acts x by_ = lessL (mayB l acts) x by_) := by
            have e : lessE l acts x by_ = 0 := lessE_of HE.out (by have := HE6.out; omega) fun s hs => by
              obtain ⟨j, hj, rfl⟩ := List.getElem_of_mem hs
              exact HK.out j hj hj
            exact ⟨e, by unfold lessR; rw [if_pos e]⟩
          have HBW := Lib.hid hbw
          have HB1o := Lib.hid (HB11.out.trans (hbr.mono HB11.out.size))
          clear hcellsb hpb hbw hbr HK
          go_wp2_with (fail)
          refine (among_calls l acts _ _ _ (hv0.stays (keeps_of_below HBW.out)) (hu.stays (keeps_of_below HBW.out)) HC.out HL.out).mono ?_
          rintro e w2 ⟨r, rfl, hp2, hb2⟩
          generalize mayB l acts = q at *
          obtain ⟨W3, eW3⟩ : ∃ W3, w2.alloc (.cells #[.slice p0 l.length c0, .map (some r)] 62) = W3 := ⟨_, rfl⟩
          obtain ⟨z3, hW3, m3⟩ := boxes1 eW3
          have hm0 := m3 0
          have hm1 := m3 1
          simp only [List.getElem?_toArray, List.getElem?_cons_zero, List.getElem?_cons_succ] at hm0 hm1
          have hbw2 : Below w.heap.size w w2 := HBW.out.trans (hb2.mono HBW.out.size)
          have HB3 := Lib.hid (hbw2.trans (hW3.mono hbw2.size))
          have hb12 := HB1o.out.trans (hb2.mono HB1o.out.size)
          have HB13 := Lib.hid (hb12.trans (hW3.mono hb12.size))
          have HP3 := Lib.hid (hp2.below hW3)
          have HZ3 := Lib.hid z3
          have HM0 := Lib.hid hm0
          have HM1 := Lib.hid hm1
          have hlt3 : w2.heap.size < W3.heap.size := by omega
          have HBX3 : Hid (W3.cell? ⟨w.heap.size, 0, none⟩ = some (.slice p3 by_.length c3)) := (HB13.out.cell (cell_lt HBX.out)).trans HBX.out
          have eg : ∀ args w, (callFunc 34 args).run Tryz.prog w = .ok (.enter 34 args) w := enters_at Tryz.func34 (by kernel_rfl) rfl
          have HEG := Lib.hid eg
          have HCL : Hid (∀ W, Below W3.heap.size W3 W → Calls Tryz.prog 33 #[.slice p2 x.length c2] W fun e w' => ∃ v' d, e = .returned v' ∧ d.map Prod.fst = x ∧ PolRow W.heap.size w' v' d ∧ Below W.heap.size W w') := fun W hW =>
            cloneL_calls x _ W (ht.stays (keeps_of_below (HB3.out.trans (hW.mono HB3.out.size)))) (by have := HN.out.1; omega)
          have HDQ : Hid (∀ W, Below W3.heap.size W3 W → ∀ p ∈ x, ∀ vr, Strs W p.2 vr → Calls Tryz.prog 34 #[.agg #[.string p.1, vr], .pointer (some ⟨w.heap.size, 0, none⟩), .pointer (some ⟨w2.heap.size, 0, none⟩)] W fun e w' => e = .returned (.bool (leftOut q by_ p)) ∧ Below W.heap.size W w') := fun W hW p hp vr hs =>
            lessF_calls q _ r by_ p vr _ w2.heap.size w.heap.size W (HP3.out.below hW) hbo (hxo p hp) hs (hb.stays (keeps_of_below (HB3.out.trans (hW.mono HB3.out.size)))) ((hW.cell (cell_lt HBX3.out)).trans HBX3.out)
              ((hW.cell (cell_lt HM0.out)).trans HM0.out) ((hW.cell (cell_lt HM1.out)).trans HM1.out)
          have HDEL : Hid (∀ w6 v6 d, d.map Prod.fst = x → PolRow W3.heap.size w6 v6 d → Below W3.heap.size W3 w6 → Calls Tryz.prog 32 #[v6, .func (.func 34) #[] #[.pointer (some ⟨w.heap.size, 0, none⟩), .pointer (some ⟨w2.heap.size, 0, none⟩)]] w6 fun e w' => ∃ v', e = .returned v' ∧
              Lbl w' (x.filter fun p => !leftOut q by_ p) v' ∧ Below W3.heap.size W3 w') := fun w6 v6 d hd hrow hb6 =>
            (deleteL_calls W3.heap.size v6 d w6 _ #[.pointer (some ⟨w.heap.size, 0, none⟩), .pointer (some ⟨w2.heap.size, 0, none⟩)] (leftOut q by_) hrow (by have := congrArg List.length hd; simp at this; have := HN.out.1; omega) HEG.out (fun W hg y hy vr hs =>
              HDQ.out W (hb6.grown hg hb6.size fun k hk => (hrow.1.lt k hk).1) y.1 (by rw [← hd]; exact List.mem_map_of_mem hy) vr hs)).mono fun e w' ⟨v', he, hl, hg⟩ => ⟨v', he, by rw [hd] at hl; exact hl, hb6.grown hg hb6.size fun k hk => (hrow.1.lt k hk).1⟩
          have HNO : Hid (∀ w7 v7, Lbl w7 (x.filter fun p => !leftOut q by_ p) v7 → Below W3.heap.size W3 w7 → Calls Tryz.prog 31 #[.agg #[.slice p0 l.length c0, .map (some r)], v7] w7 fun e w' => ∃ v', e = .returned v' ∧ Lbl w' (lessL q x by_) v' ∧ Below W3.heap.size W3 w') := fun w7 v7 hl7 hb7 =>
            (wnormal_calls q _ r _ v7 w7 (HP3.out.below hb7) (fun p hp => hxo p (List.mem_filter.1 hp).1) hl7 (Nat.le_trans (List.length_filter_le _ _) HN.out.1) (fun p hp => HN.out.2 p (List.mem_filter.1 hp).1)).mono fun e w' ⟨v', he, hl, hb8⟩ => ⟨v', he, hl, hb7.trans (hb8.mono hb7.size)⟩
          have hc1 := HM0.out
          have hc2 := HM1.out
          clear m3 hW3 hp2 hb2 hbw2 hb12 eg hlt HDQ HP3 hm0 hm1
          go_wp2
          go_region_held3 (fun w' => w'.cell? ⟨w2.heap.size, 0, none⟩ = some (.slice p0 l.length c0) ∧ w'.cell? ⟨w2.heap.size, 1, none⟩ = some (.map (some r)))
            (first | exact ⟨hc1, hc2⟩ | exact ⟨hc61, hc62⟩ | exact ⟨hc71, hc72⟩ | exact ⟨hc81, hc82⟩)
            (first
              | (go_at_call 33
                 refine (HCL.out _ (Below.refl _ _).drew).mono ?_
                 rintro e w6 ⟨v6, d, rfl, hd, hrow, hb6⟩
                 have hb6' : Below W3.heap.size W3 w6 := (Below.refl W3.heap.size W3).drew.trans hb6
                 have hc61 : w6.cell? ⟨w2.heap.size, 0, none⟩ = some (.slice p0 l.length c0) := (hb6'.cell (p := ⟨w2.heap.size, 0, none⟩) hlt3).trans hc1
                 have hc62 : w6.cell? ⟨w2.heap.size, 1, none⟩ = some (.map (some r)) := (hb6'.cell (p := ⟨w2.heap.size, 1, none⟩) hlt3).trans hc2)
              | (go_at_call 32
                 refine (HDEL.out _ v6 d hd hrow hb6').mono ?_
                 rintro e w7 ⟨v7, rfl, hl7, hb7⟩
                 have hc71 : w7.cell? ⟨w2.heap.size, 0, none⟩ = some (.slice p0 l.length c0) := (hb7.cell (p := ⟨w2.heap.size, 0, none⟩) hlt3).trans hc1
                 have hc72 : w7.cell? ⟨w2.heap.size, 1, none⟩ = some (.map (some r)) := (hb7.cell (p := ⟨w2.heap.size, 1, none⟩) hlt3).trans hc2)
              | (go_at_call 31
                 refine (HNO.out _ v7 hl7 hb7).mono ?_
                 rintro e w8 ⟨v8, rfl, hl8, hb8⟩
                 have hc81 : w8.cell? ⟨w2.heap.size, 0, none⟩ = some (.slice p0 l.length c0) := (hb8.cell (p := ⟨w2.heap.size, 0, none⟩) hlt3).trans hc1
                 have hc82 : w8.cell? ⟨w2.heap.size, 1, none⟩ = some (.map (some r)) := (hb8.cell (p := ⟨w2.heap.size, 1, none⟩) hlt3).trans hc2))
          all_goals (try go_wp2)
          all_goals go_ret2
          all_goals exact ⟨_, by rw [HX.out.1]; rfl, by rw [HX.out.2]; exact hl8, HB3.out.trans (hb8.mono HB3.out.size)⟩
  · have HX : Hid (lessE l acts x by_ = labE l acts x ∧ lessR l acts x by_ = []) := by
      have e : lessE l acts x by_ = labE l acts x := by unfold lessE; rw [if_pos he]
      exact ⟨e, by unfold lessR; rw [e, if_neg he]⟩
    have hq : (labE l acts x != 0) = true := by simpa using he
    have hq2 : (labE l acts x == 0) = false := by simpa using he
    clear he
    go_enter Tryz.func8, Tryz.ntmps8
    go_wp2_with (fail)
    refine (labCheck_calls l acts x _ _ _ _ (hv0.stays (keeps_of_below HW.out)) (hu.stays (keeps_of_below HW.out)) (ht.stays (keeps_of_below HW.out))).mono ?_
    rintro e w1 ⟨rfl, hb1⟩
    go_wp2
    go_ret2
    exact ⟨_, by rw [HX.out.1]; rfl, by rw [HX.out.2]; exact nilL _, HW.out.trans (hb1.mono HW.out.size)⟩
end Go.Proofs.YtcgihpfanfbonaaGreatDoor
namespace Go.Proofs.YtcgihpfanfbonaaGreatDoor
open Go.RowKit Go.Maps
set_option linter.unusedVariables false
set_option linter.unusedSimpArgs false

theorem names_is {l : List Txt} (h : errNames l = 0) : ∀ s ∈ l, isName s = true := fun s hs => by
  obtain ⟨j, hj, rfl⟩ := List.getElem_of_mem hs
  have hn : nameErr l j = 0 := by
    apply Decidable.byContradiction
    intro hne
    unfold errNames at h
    cases hf : (List.range l.length).find? (fun i => nameErr l i != 0) with
    | none =>
      rw [List.find?_eq_none] at hf
      have := hf j (List.mem_range.2 hj)
      simp at this
      exact hne this
    | some k =>
      rw [hf] at h
      have h1 := List.find?_some hf
      have h2 : nameErr l k = 0 := h
      simp [h2] at h1
  unfold nameErr at hn
  rw [getD_at hj] at hn
  cases e : isName l[j] with
  | true => rfl
  | false => rw [e] at hn; simp at hn
theorem name_small {s : Txt} (h : isName s = true) : s.size ≤ 12 := by
  unfold isName at h
  simp only [Bool.and_eq_true, decide_eq_true_eq] at h
  exact h.1.1.2
section
variable {l : List Txt} {acts : List (Txt × Txt)}
theorem right_small (hc : checkC l acts = 0) {x : Lab} (h : RightL l x) : ∀ p ∈ x, p.1.size ≤ 12 ∧ ∀ s ∈ p.2, s.size ≤ 12 := fun p hp =>
  have hn := names_is (checkC_zero hc).2.2.1
  ⟨name_small (hn _ (has_iff.1 (h p hp).2.1)), fun s hs => name_small (hn _ (has_iff.1 ((h p hp).2.2 s hs)))⟩
theorem refNormalR_calls (hc : checkC l acts = 0) {x : Lab} (h : RightL l x) (u t : Value) (w : World) (hu : Prs w acts u) (ht : Lbl w x t) (hx : x.length ≤ 1000000) :
    Calls Tryz.prog 12 #[u, t] w fun e w' => ∃ y, e = .returned y ∧ Lbl w' (normL (mayB l acts) x) y ∧ Below w.heap.size w w' := by
  rw [norm_acts hc h]
  exact refNormal_calls acts x u t w hu ht (checkC_zero hc).2.1 (right_full hc h) (fun p hp => (h p hp).1) (right_small hc h) hx
theorem less_acts (hc : checkC l acts = 0) {x : Lab} (h : RightL l x) {by_ : List Txt} (hb : ∀ s ∈ by_, has l s = true) : lessL (mayB l acts) x by_ = normL (actsF acts) (x.filter fun p => !leftOut (actsF acts) by_ p) := by
  have e : (x.filter fun p => !leftOut (mayB l acts) by_ p) = x.filter fun p => !leftOut (actsF acts) by_ p := by
    refine List.filter_congr fun p hp => ?_
    congr 1
    unfold leftOut
    exact any_congr fun s hs => may_acts hc (hb s hs) (h p hp).2.1
  unfold lessL
  rw [e]
  exact norm_acts hc fun p hp => h p (List.mem_filter.1 hp).1
theorem refLessR_calls (hc : checkC l acts = 0) {x : Lab} (h : RightL l x) {by_ : List Txt} (hb : ∀ s ∈ by_, has l s = true) (u t vb : Value) (w : World) (hu : Prs w acts u) (ht : Lbl w x t) (hvb : Strs w by_ vb) (hx : x.length ≤ 1000000) :
    Calls Tryz.prog 17 #[u, t, vb] w fun e w' => ∃ y, e = .returned y ∧ Lbl w' (lessL (mayB l acts) x by_) y ∧ Below w.heap.size w w' := by
  rw [less_acts hc h hb]
  exact refLess_calls acts x by_ u t vb w hu ht hvb (checkC_zero hc).2.1 (right_full hc h) (fun p hp => (h p hp).1) (right_small hc h) hx
end
end Go.Proofs.YtcgihpfanfbonaaGreatDoor
namespace Go.Proofs.YtcgihpfanfbonaaGreatDoor
open Go.RowKit
set_option linter.unusedVariables false
set_option linter.unusedSimpArgs false

def wordB (n : Int) : Bool := letterB n || digitB n
theorem occ_infix {s sub : List UInt8} : (∃ j, j ≤ s.length ∧ Lib.occAt s sub j = true) ↔ sub <:+: s := by
  constructor
  · rintro ⟨j, _, h⟩
    unfold Lib.occAt at h
    rw [List.isPrefixOf_iff_prefix] at h
    exact h.isInfix.trans (List.drop_suffix j s).isInfix
  · rintro ⟨a, b, rfl⟩
    refine ⟨a.length, by simp, ?_⟩
    unfold Lib.occAt
    rw [List.isPrefixOf_iff_prefix, List.append_assoc, List.drop_left]
    exact List.prefix_append _ _
theorem contains_infix (s sub : List UInt8) : Lib.contains s sub = true ↔ sub <:+: s := by
  rw [← occ_infix]
  unfold Lib.contains
  rcases Lib.index_spec s sub with ⟨h1, h2⟩ | ⟨i, h1, h2, h3, _⟩
  · rw [h1]
    constructor
    · intro h; simp at h
    · rintro ⟨j, hj, h⟩
      rw [h2 j hj] at h
      cases h
  · rw [h1]
    constructor
    · intro _; exact ⟨i, h2, h3⟩
    · intro _; simp

/-- Texts with a blank ahead of each and behind the last. -/
def padL : List Txt → List UInt8
  | [] => [32]
  | x :: l => 32 :: (bytesOf x ++ padL l)
theorem padL_head (l : List Txt) : ∃ u, padL l = 32 :: u := by
  cases l with
  | nil => exact ⟨[], rfl⟩
  | cons x l => exact ⟨_, rfl⟩
theorem prefix_word : ∀ {x y u v : List UInt8}, (32 : UInt8) ∉ x → (32 : UInt8) ∉ y → (x ++ 32 :: u <+: y ++ 32 :: v) → x = y
  | [], [], _, _, _, _, _ => rfl
  | [], b :: y, u, v, _, hy, h => by
    rw [List.nil_append, List.cons_append, List.cons_prefix_cons] at h
    exact absurd (by rw [h.1]; simp) hy
  | a :: x, [], u, v, hx, _, h => by
    rw [List.nil_append, List.cons_append, List.cons_prefix_cons] at h
    exact absurd (by rw [h.1]; simp) hx
  | a :: x, b :: y, u, v, hx, hy, h => by
    rw [List.cons_append, List.cons_append, List.cons_prefix_cons] at h
    rw [h.1, prefix_word (fun m => hx (List.mem_cons_of_mem _ m)) (fun m => hy (List.mem_cons_of_mem _ m)) h.2]
theorem infix_past : ∀ {y s z : List UInt8}, (32 : UInt8) ∉ y → (32 :: s <:+: y ++ z) → 32 :: s <:+: z
  | [], _, _, _, h => h
  | b :: y, s, z, hy, h => by
    rw [List.cons_append, List.infix_cons_iff] at h
    rcases h with h | h
    · rw [List.cons_prefix_cons] at h
      exact absurd (by rw [h.1]; simp) hy
    · exact infix_past (fun m => hy (List.mem_cons_of_mem _ m)) h
theorem pad_infix {x : List UInt8} (hx : (32 : UInt8) ∉ x) : ∀ {l : List Txt}, (∀ y ∈ l, (32 : UInt8) ∉ bytesOf y) → ((32 :: (x ++ [32]) <:+: padL l) ↔ ∃ y ∈ l, bytesOf y = x)
  | [], _ => by
    constructor
    · intro h
      have := h.length_le
      simp [padL] at this
    · rintro ⟨y, hy, _⟩; cases hy
  | y :: l, hl => by
    have hy := hl y List.mem_cons_self
    have ih := pad_infix hx (l := l) fun z hz => hl z (List.mem_cons_of_mem _ hz)
    obtain ⟨u, hu⟩ := padL_head l
    constructor
    · intro h
      unfold padL at h
      rw [List.infix_cons_iff] at h
      rcases h with h | h
      · rw [List.cons_prefix_cons, hu] at h
        exact ⟨y, List.mem_cons_self, (prefix_word hx hy h.2).symm⟩
      · obtain ⟨z, hz, e⟩ := ih.1 (infix_past hy h)
        exact ⟨z, List.mem_cons_of_mem _ hz, e⟩
    · rintro ⟨z, hz, e⟩
      unfold padL
      rcases List.mem_cons.1 hz with rfl | hz
      · rw [e, hu]
        refine List.IsPrefix.isInfix ?_
        rw [List.cons_prefix_cons]
        refine ⟨rfl, u, by simp⟩
      · exact (ih.2 ⟨z, hz, e⟩).trans ((List.suffix_append _ _).isInfix.trans (List.suffix_cons _ _).isInfix)

/-- The document's word. -/
def padB : List UInt8 := padL wordsL
theorem words_no_blank : ∀ y ∈ wordsL, (32 : UInt8) ∉ bytesOf y := by decide +kernel
theorem words_full : ∀ y ∈ wordsL, bytesOf y ≠ [] := by decide +kernel
theorem word_law (s : Txt) (h0 : bytesOf s ≠ []) (hb : (32 : UInt8) ∉ bytesOf s) : Lib.contains padB (32 :: (bytesOf s ++ [32])) = isWord s := by
  rw [Bool.eq_iff_iff, contains_infix]
  unfold padB isWord
  rw [pad_infix hb words_no_blank, has_iff]
  constructor
  · rintro ⟨y, hy, e⟩
    rw [← txt_ext e]; exact hy
  · intro h; exact ⟨s, h, rfl⟩
theorem word_blank (s : Txt) (hb : (32 : UInt8) ∈ bytesOf s) : isWord s = false := by
  cases h : isWord s with
  | false => rfl
  | true => exact absurd hb (words_no_blank s (has_iff.1 h))
theorem word_empty (s : Txt) (hb : bytesOf s = []) : isWord s = false := by
  cases h : isWord s with
  | false => rfl
  | true => exact absurd hb (words_full s (has_iff.1 h))

def lettersB : List UInt8 := [97,98,99,100,101,102,103,104,105,106,107,108,109,110,111,112,113,114,115,116,117,118,119,120,121,122,65,66,67,68,69,70,71,72,73,74,75,76,77,78,79,80,81,82,83,84,85,86,87,88,89,90,95]
def figuresB : List UInt8 := [48,49,50,51,52,53,54,55,56,57]
theorem u8_all {p : UInt8 → Bool} (h : (List.range 256).all (fun i => p (UInt8.ofNat i)) = true) (b : UInt8) : p b = true := by
  have := List.all_eq_true.1 h b.toNat (by simpa using b.toNat_lt)
  simpa using this
theorem letters_mem (b : UInt8) : lettersB.contains b = letterB b.toNat := eq_of_beq (u8_all (p := fun b => lettersB.contains b == letterB b.toNat) (by decide +kernel) b)
theorem figures_mem (b : UInt8) : figuresB.contains b = digitB b.toNat := eq_of_beq (u8_all (p := fun b => figuresB.contains b == digitB b.toNat) (by decide +kernel) b)
theorem getD_bytes {l : List UInt8} {j : Nat} (h : j < l.length) : l.getD j 0 = l[j] := by simp [List.getD, h]
theorem wordset_mem (b : UInt8) : (lettersB ++ figuresB).contains b = wordB b.toNat := by
  rw [List.contains_append, letters_mem, figures_mem]; rfl
theorem dropWhile_nil {p : UInt8 → Bool} : ∀ {l : List UInt8}, l.dropWhile p = [] ↔ ∀ b ∈ l, p b = true
  | [] => by simp
  | x :: l => by
    rw [List.dropWhile_cons]
    split
    · rename_i h
      rw [dropWhile_nil]
      simp [h]
    · rename_i h
      constructor
      · intro e; cases e
      · intro e; exact absurd (e x List.mem_cons_self) h
theorem dropWhile_all {p : UInt8 → Bool} : ∀ {l : List UInt8}, (∀ b ∈ l.dropWhile p, p b = true) → l.dropWhile p = []
  | [], _ => rfl
  | x :: l, h => by
    rw [List.dropWhile_cons] at h ⊢
    split
    · rename_i hp
      rw [if_pos hp] at h
      exact dropWhile_all h
    · rename_i hp
      rw [if_neg hp] at h
      exact absurd (h x List.mem_cons_self) hp
theorem trim_nil {l cs : List UInt8} : Lib.trimS l cs = [] ↔ ∀ b ∈ l, cs.contains b = true := by
  unfold Lib.trimS Lib.trimLeftS Lib.trimRightS
  rw [dropWhile_nil]
  constructor
  · intro h
    have h1 : ∀ b ∈ l.reverse.dropWhile (cs.contains ·), cs.contains b = true := fun b hb => h b (by simpa using hb)
    have h2 := dropWhile_nil.1 (dropWhile_all h1)
    exact fun b hb => h2 b (by simpa using hb)
  · intro h b hb
    have : b ∈ l.reverse.dropWhile (cs.contains ·) := by simpa using hb
    have := (List.dropWhile_sublist _).subset this
    exact h b (by simpa using this)
/-- The document's name, behind its first tests. -/
theorem name_law (s : Txt) (h1 : 1 ≤ s.size) (h2 : s.size ≤ 12) (hw : isWord s = false) :
    isName s = (decide (Lib.trimS (bytesOf s) (lettersB ++ figuresB) = []) && !figuresB.contains (s.data.toList.getD 0 0)) := by
  have hL : isName s = (List.range s.size).all (okAt s) := by
    unfold isName
    rw [hw]
    simp [h1, h2]
  rw [hL, figures_mem, Bool.eq_iff_iff, List.all_eq_true, Bool.and_eq_true, decide_eq_true_eq, trim_nil]
  have hget : ∀ j, j < s.size → s.data.toList.getD j 0 ∈ bytesOf s := fun j hj => by
    unfold bytesOf
    rw [getD_bytes (by rw [← bytesOf_len] at hj; exact hj)]
    exact List.getElem_mem _
  have hdl : ∀ n : Int, letterB n = true → digitB n = false := fun n h => by
    unfold letterB at h
    unfold digitB
    simp at h ⊢
    omega
  constructor
  · intro h
    have h0 := h 0 (by simp; omega)
    unfold okAt at h0
    have hl0 : letterB (s.data.toList.getD 0 0).toNat = true := by simpa using h0
    refine ⟨fun b hb => ?_, by rw [hdl _ hl0]; rfl⟩
    rw [wordset_mem]
    obtain ⟨j, hj, e⟩ := List.getElem_of_mem hb
    have hj' : j < s.size := by rw [← bytesOf_len]; exact hj
    have hh := h j (by simpa using hj')
    unfold okAt at hh
    have e' : s.data.toList.getD j 0 = b := by
      exact (getD_bytes (l := s.data.toList) hj).trans e
    rw [e'] at hh
    unfold wordB
    rw [Bool.or_eq_true] at hh ⊢
    rcases hh with hh | hh
    · exact .inl hh
    · rw [Bool.and_eq_true] at hh; exact .inr hh.2
  · rintro ⟨h, h0⟩ j hj
    have hj' : j < s.size := by simpa using hj
    have hb := h _ (hget j hj')
    rw [wordset_mem] at hb
    unfold wordB at hb
    unfold okAt
    rw [Bool.or_eq_true] at hb ⊢
    rcases hb with hb | hb
    · exact .inl hb
    · right
      rw [Bool.and_eq_true]
      refine ⟨?_, hb⟩
      simp
      intro e
      subst e
      rw [hb] at h0
      cases h0
end Go.Proofs.YtcgihpfanfbonaaGreatDoor
namespace Go.Proofs.YtcgihpfanfbonaaGreatDoor
open Go.RowKit
set_option linter.unusedVariables false
set_option linter.unusedSimpArgs false

theorem blank_iff (s : Txt) : decide (0 ≤ Lib.indexByte s.data.toList 32) = true ↔ (32 : UInt8) ∈ bytesOf s := by
  rw [decide_eq_true_iff]
  have hge := Lib.indexByte_ge s.data.toList 32
  constructor
  · intro h
    obtain ⟨o, ho⟩ : ∃ o : Nat, Lib.indexByte s.data.toList 32 = o := ⟨(Lib.indexByte s.data.toList 32).toNat, by omega⟩
    exact List.mem_of_getElem? (Lib.indexByte_some ho).1
  · intro h
    apply Decidable.byContradiction
    intro hn
    have h1 : Lib.indexByte s.data.toList 32 = -1 := by omega
    obtain ⟨k, hk⟩ := List.mem_iff_getElem?.1 h
    exact Lib.indexByte_none h1 k hk
theorem pad_bytes (s : Txt) : (((⟨#[32]⟩ : Txt) ++ s) ++ (⟨#[32]⟩ : Txt)).data.toList = 32 :: (bytesOf s ++ [32]) := by
  show bytesOf _ = _
  rw [bytesOf_append, bytesOf_append]
  rfl
theorem contains_mem (l : List UInt8) (c : UInt8) : Lib.contains l [c] = l.contains c := by
  rw [Bool.eq_iff_iff, contains_infix, List.contains_iff_mem]
  constructor
  · rintro ⟨a, b, e⟩
    rw [← e]; simp
  · intro h
    obtain ⟨a, b, rfl⟩ := List.append_of_mem h
    exact ⟨a, b, by simp⟩

set_option maxHeartbeats 1000000 in
set_option maxRecDepth 100000 in
theorem refWord_calls (s : Txt) (m : Int) (w : World) (hs : s.size ≤ 9223372036854775000) (hm : w.cell? ⟨0, 0, none⟩ = some (.int .i64 m)) :
    Calls Tryz.prog 96 #[.string s] w fun e w' => e = .returned (.bool (isWord s)) ∧ w = w' := by
  by_cases h0 : s = ⟨#[]⟩
  · subst h0
    have hx : isWord ⟨#[]⟩ = false := by decide +kernel
    rw [hx]
    go_enter Tryz.func96, Tryz.ntmps96
    go_wp2
    go_ret
    exact ⟨rfl, rfl⟩
  · have hne : bytesOf s ≠ [] := fun e => h0 (txt_ext (by rw [e]; rfl))
    have hq : ¬ s.toList = [] := by rw [Lib.toList_data]; exact hne
    have hqe : s.toList.isEmpty = false := by rw [Lib.toList_data]; cases h : s.data.toList with
      | nil => exact absurd h hne
      | cons => rfl
    have hq1 : ¬ 9223372036854775807 < 1 + s.size := by omega
    have hq2 : ¬ 9223372036854775807 < 1 + s.size + 1 := by omega
    have HPAD : Hid (∀ P : Txt, P.data.toList = padB → Lib.contains P.data.toList (((⟨#[32]⟩ : Txt) ++ s) ++ (⟨#[32]⟩ : Txt)).data.toList = Lib.contains padB (32 :: (bytesOf s ++ [32]))) := fun P h => by rw [h, pad_bytes]
    have HM := Lib.hid hm
    clear h0 hm
    cases hC : Lib.contains padB (32 :: (bytesOf s ++ [32])) with
    | false =>
      have hx : isWord s = false := by
        cases h : isWord s with
        | false => rfl
        | true =>
          have hb : (32 : UInt8) ∉ bytesOf s := fun hb => by rw [word_blank s hb] at h; cases h
          rw [word_law s hne hb, h] at hC
          cases hC
      have HX := Lib.hid hx
      have HC := Lib.hid hC
      clear hx hC hne
      go_enter Tryz.func96, Tryz.ntmps96
      go_wp2_with (fail)
      refine (Tryz.strings_Contains _ _ m _ (by decide +kernel) HM.out).mono ?_
      rintro e w1 ⟨rfl, rfl⟩
      rw [HPAD.out _ ?hp]
      case hp => kernel_rfl
      rw [HC.out]
      go_wp2
      go_ret
      exact ⟨by rw [HX.out]; rfl, rfl⟩
    | true =>
      have HC := Lib.hid hC
      cases hB : decide (0 ≤ Lib.indexByte s.data.toList 32) with
      | true =>
        have hx : isWord s = false := word_blank s ((blank_iff s).1 hB)
        have HX := Lib.hid hx
        have HB := Lib.hid hB
        clear hx hC hne hB
        go_enter Tryz.func96, Tryz.ntmps96
        go_wp2_with (fail)
        refine (Tryz.strings_Contains _ _ m _ (by decide +kernel) HM.out).mono ?_
        rintro e w1 ⟨rfl, rfl⟩
        rw [HPAD.out _ ?hp]
        case hp => kernel_rfl
        rw [HC.out]
        go_wp2_with (fail)
        refine (Tryz.strings_Contains_one s 32 _).mono ?_
        rintro e w2 ⟨rfl, rfl⟩
        rw [HB.out]
        go_wp2
        go_ret
        exact ⟨by rw [HX.out]; rfl, rfl⟩
      | false =>
        have hb : (32 : UInt8) ∉ bytesOf s := fun h => by rw [(blank_iff s).2 h] at hB; cases hB
        have hx : isWord s = true := by rw [← word_law s hne hb]; exact hC
        have HX := Lib.hid hx
        have HB := Lib.hid hB
        clear hx hC hne hB hb
        go_enter Tryz.func96, Tryz.ntmps96
        go_wp2_with (fail)
        refine (Tryz.strings_Contains _ _ m _ (by decide +kernel) HM.out).mono ?_
        rintro e w1 ⟨rfl, rfl⟩
        rw [HPAD.out _ ?hp]
        case hp => kernel_rfl
        rw [HC.out]
        go_wp2_with (fail)
        refine (Tryz.strings_Contains_one s 32 _).mono ?_
        rintro e w2 ⟨rfl, rfl⟩
        rw [HB.out]
        go_wp2
        go_ret
        exact ⟨by rw [HX.out]; rfl, rfl⟩

set_option maxHeartbeats 1000000 in
set_option maxRecDepth 100000 in
theorem refName_calls (s : Txt) (m : Int) (w : World) (hs : okTxt s) (hm : w.cell? ⟨0, 0, none⟩ = some (.int .i64 m)) :
    Calls Tryz.prog 68 #[.string s] w fun e w' => e = .returned (.bool (isName s)) ∧ Below w.heap.size w w' := by
  by_cases h0 : s = ⟨#[]⟩
  · subst h0
    have hx : isName ⟨#[]⟩ = false := by decide +kernel
    rw [hx]
    go_enter Tryz.func68, Tryz.ntmps68
    go_wp2
    go_ret
    exact ⟨rfl, Below.refl _ _⟩
  · have hne : bytesOf s ≠ [] := fun e => h0 (txt_ext (by rw [e]; rfl))
    have hq : ¬ s.toList = [] := by rw [Lib.toList_data]; exact hne
    have hqe : s.toList.isEmpty = false := by rw [Lib.toList_data]; cases h : s.data.toList with
      | nil => exact absurd h hne
      | cons => rfl
    have hsz : 1 ≤ s.size := by
      have := List.length_pos_iff.2 hne
      rw [bytesOf_len] at this
      exact this
    have HS := Lib.hid hs
    clear h0 hs
    by_cases h12 : s.size ≤ 12
    · have h12' : (s.size : Int) ≤ 12 := by omega
      have HW := Lib.hid (refWord_calls s m w (by omega) hm)
      have HM := Lib.hid hm
      clear hm
      cases hw : isWord s with
      | true =>
        have hx : isName s = false := by unfold isName; rw [hw]; simp
        have HX := Lib.hid hx
        rw [hw] at HW
        clear hx hne hw
        go_enter Tryz.func68, Tryz.ntmps68
        go_wp2_with (fail)
        refine HW.out.mono ?_
        rintro e w1 ⟨rfl, rfl⟩
        go_wp2
        go_ret
        exact ⟨by rw [HX.out]; rfl, Below.refl _ _⟩
      | false =>
        have hlaw := name_law s hsz h12 hw
        rw [hw] at HW
        have hs1 : (1 : Int) ≤ (s.size : Int) := by omega
        have HT : Hid (∀ cut : Txt, cut.data.toList = lettersB ++ figuresB → Calls Tryz.prog 97 #[.string s, .string cut] w fun e w' => ∃ T : Txt, e = .returned (.string T) ∧ T.toList.isEmpty = decide (Lib.trimS (bytesOf s) (lettersB ++ figuresB) = []) ∧ Below w.heap.size w w') := fun cut hc => by
          have hsz2 : cut.size = 63 := by
            have := congrArg List.length hc
            rw [Array.length_toList] at this
            exact this.trans (by decide +kernel)
          refine (Any.strings_Trim_laid Tryz.lays160 (by kernel_rfl) s cut w (by have := HS.out; unfold okTxt at this; omega) (by omega) (by rw [hc]; exact ascii_of_all (by decide +kernel))).mono ?_
          rintro e w' ⟨rfl, hb⟩
          refine ⟨_, rfl, ?_, hb⟩
          rw [hc, Lib.toList_data]
          show (Lib.trimS (bytesOf s) (lettersB ++ figuresB)).isEmpty = _
          cases Lib.trimS (bytesOf s) (lettersB ++ figuresB) <;> rfl
        have HF : Hid (∀ P : Txt, P.data.toList = figuresB → Lib.contains P.data.toList (s.extract 0 1).data.toList = figuresB.contains (s.data.toList.getD 0 0)) := fun P h => by
          have e1 : (s.extract 0 1).data.toList = [s.data.toList.getD 0 0] := by
            show bytesOf _ = _
            rw [bytesOf_extract]
            unfold bytesOf at hne ⊢
            cases hl : s.data.toList with
            | nil => exact absurd hl hne
            | cons x l => rfl
          rw [h, e1, contains_mem]
        have HLAW := Lib.hid hlaw
        clear hlaw hw hne
        cases hT : decide (Lib.trimS (bytesOf s) (lettersB ++ figuresB) = []) with
        | false =>
          have HX : Hid (isName s = false) := by unfold Hid; rw [HLAW.out, hT]; rfl
          rw [hT] at HT
          clear hT
          go_enter Tryz.func68, Tryz.ntmps68
          go_wp2_with (fail)
          refine HW.out.mono ?_
          rintro e w1 ⟨rfl, rfl⟩
          go_wp2_with (fail)
          refine (HT.out _ ?hc).mono ?_
          case hc => kernel_rfl
          rintro e w2 ⟨T, rfl, hT, hb⟩
          have hT2 : ¬ T.toList = [] := fun e => by rw [e] at hT; cases hT
          go_wp2
          go_ret
          exact ⟨by rw [HX.out]; rfl, hb⟩
        | true =>
          rw [hT] at HT
          cases hf : figuresB.contains (s.data.toList.getD 0 0) with
          | true =>
            have HX : Hid (isName s = false) := by unfold Hid; rw [HLAW.out, hT, hf]; rfl
            rw [hf] at HF
            clear hT hf
            go_enter Tryz.func68, Tryz.ntmps68
            go_wp2_with (fail)
            refine HW.out.mono ?_
            rintro e w1 ⟨rfl, rfl⟩
            go_wp2_with (fail)
            refine (HT.out _ ?hc).mono ?_
            case hc => kernel_rfl
            rintro e w2 ⟨T, rfl, hT, hb⟩
            have hT2 : T.toList = [] := List.isEmpty_iff.1 hT
            go_wp2_with (fail)
            refine (Tryz.strings_Contains _ _ m _ (by decide +kernel) ((hb.cell (cell_lt HM.out)).trans HM.out)).mono ?_
            rintro e w3 ⟨rfl, rfl⟩
            rw [HF.out _ ?hc]
            case hc => kernel_rfl
            go_wp2
            go_ret
            exact ⟨by rw [HX.out]; rfl, hb⟩
          | false =>
            have HX : Hid (isName s = true) := by unfold Hid; rw [HLAW.out, hT, hf]; rfl
            rw [hf] at HF
            clear hT hf
            go_enter Tryz.func68, Tryz.ntmps68
            go_wp2_with (fail)
            refine HW.out.mono ?_
            rintro e w1 ⟨rfl, rfl⟩
            go_wp2_with (fail)
            refine (HT.out _ ?hc).mono ?_
            case hc => kernel_rfl
            rintro e w2 ⟨T, rfl, hT, hb⟩
            have hT2 : T.toList = [] := List.isEmpty_iff.1 hT
            go_wp2_with (fail)
            refine (Tryz.strings_Contains _ _ m _ (by decide +kernel) ((hb.cell (cell_lt HM.out)).trans HM.out)).mono ?_
            rintro e w3 ⟨rfl, rfl⟩
            rw [HF.out _ ?hc]
            case hc => kernel_rfl
            go_wp2
            go_ret
            exact ⟨by rw [HX.out]; rfl, hb⟩
    · have hx : isName s = false := by unfold isName; simp [h12]
      have h12' : ¬ (s.size : Int) ≤ 12 := by omega
      have HX := Lib.hid hx
      clear hx hne h12
      go_enter Tryz.func68, Tryz.ntmps68
      go_wp2
      go_ret
      exact ⟨by rw [HX.out]; rfl, Below.refl _ _⟩
end Go.Proofs.YtcgihpfanfbonaaGreatDoor
namespace Go.Proofs.YtcgihpfanfbonaaGreatDoor
open Go.RowKit Go.Maps
set_option linter.unusedVariables false
set_option linter.unusedSimpArgs false

theorem owns_below {w w' : World} {M n : Nat} {D : DataW Unit} (h : w.ownsMap Tryz.prog 9 (plainElem Tryz.prog 3) M n D) {B : Nat} (hb : Below w.heap.size w w') : w'.ownsMap Tryz.prog 9 (plainElem Tryz.prog 3) M n D :=
  h.kept (row := none) ⟨hb.os, hb.tape, hb.output, hb.size, fun q hq _ => hb.block q hq⟩ (by simp)

set_option maxHeartbeats 2000000 in
set_option maxRecDepth 100000 in
theorem refCheck_calls (l : List Txt) (acts : List (Txt × Txt)) (v u : Value) (m : Int) (w : World) (hv : Strs w l v) (hu : Prs w acts u) (hl : okList okTxt l) (ho : ∀ p ∈ acts, okTxt p.1 ∧ okTxt p.2) (hm : w.cell? ⟨0, 0, none⟩ = some (.int .i64 m)) :
    Calls Tryz.prog 37 #[v, u] w fun e w' => e = .returned (.int .i64 (checkC l acts)) ∧ Below w.heap.size w w' := by
  obtain ⟨b, o, c, p, rfl, hlc, hc, hp, hcells⟩ := hv.cells
  obtain ⟨b2, o2, c2, p2, rfl, hlc2, hc2, hp2, hcells2⟩ := hu.cells
  have HM := Lib.hid hm
  have hmm := @run_makeMap Tryz.prog
  clear hv hu hm
  by_cases h1 : l.length ≤ 6
  · by_cases h2 : acts.length ≤ 10
    · have h1' : ¬ 6 < (l.length : Int) := by omega
      have h2' : ¬ 10 < (acts.length : Int) := by omega
      have HCE := Lib.hid hcells
      have HPP := Lib.hid hp
      have HC2 := Lib.hid hcells2
      have HP2 := Lib.hid hp2
      have HL := Lib.hid hl
      have HO := Lib.hid ho
      obtain ⟨W0, eW⟩ : ∃ W0, w.alloc (.map #[] 0) = W0 := ⟨_, rfl⟩
      have hB0 : Below w.heap.size w W0 := by rw [← eW]; exact (Below.refl _ _).alloc (Nat.le_refl _) _
      have hM0 : W0.ownsMap Tryz.prog 9 (plainElem Tryz.prog 3) w.heap.size 0 (.map [] : DataW Unit) := by
        rw [← eW]; exact World.ownsMap_made (H := Unit) w Tryz.prog 9 _
      have HB0 := Lib.hid hB0
      have HM0 := Lib.hid hM0
      clear hcells hp hcells2 hp2 hl ho hB0 hM0
      go_enter Tryz.func37, Tryz.ntmps37
      go_wp2
      go_loopw [21] (fun i ws => ∃ (k : Nat) (D : DataW Unit) (wo : World), k ≤ l.length ∧ i = .int .i64 k ∧ wo = ws ∧ Hid (Below w.heap.size w wo) ∧ Hid (wo.ownsMap Tryz.prog 9 (plainElem Tryz.prog 3) w.heap.size k D) ∧ Hid (SeenD D (l.take k)) ∧ Hid (∀ j, j < k → nameErr l j = 0)) (fun i _ => l.length - (intOf i).toNat)
      case atStart => exact ⟨0, _, _, Nat.zero_le _, rfl, rfl, HB0.out, HM0.out, SeenD.start, fun j hj => absurd hj (Nat.not_lt_zero _)⟩
      case round =>
        obtain ⟨k, D, wo, hk, rfl, rfl, HB, HMP, HSD, HN⟩ := hrel
        by_cases hlt : k < l.length
        · have g0 := HCE.out k hlt
          have hcell : wo.cell? ⟨b, o + k, none⟩ = some (.string l[k]) := (HB.out.cell (cell_lt g0)).trans g0
          obtain rfl := HPP.out (by omega)
          have HOK : Hid (okTxt l[k]) := HL.out _ (List.getElem_mem hlt)
          have HMC : Hid (wo.cell? ⟨0, 0, none⟩ = some (.int .i64 m)) := (HB.out.cell (cell_lt HM.out)).trans HM.out
          have HNC := Lib.hid (refName_calls l[k] m wo HOK.out HMC.out)
          clear g0
          cases hnm : isName l[k] with
          | false =>
            have HX : Hid (checkC l acts = 4) := checkC_name h1 h2 hlt HN.out (by unfold nameErr; rw [getD_at hlt, hnm]; rfl) (by omega)
            rw [hnm] at HNC
            go_wp2_with (fail)
            refine HNC.out.mono ?_
            rintro e w1 ⟨rfl, hb1⟩
            go_wp2
            go_ret
            exact ⟨ret_int HX.out.symm, HB.out.trans (hb1.mono HB.out.size)⟩
          | true =>
            rw [hnm] at HNC
            cases hh : has (l.take k) l[k] with
            | true =>
              have HX : Hid (checkC l acts = 6) := checkC_name h1 h2 hlt HN.out (by unfold nameErr; rw [getD_at hlt, hnm, hh]; rfl) (by omega)
              have HH := Lib.hid hh
              clear hh hnm
              go_wp2_with (fail)
              refine HNC.out.mono ?_
              rintro e w1 ⟨rfl, hb1⟩
              have hM1 := owns_below HMP.out (B := 0) hb1
              have HB1 := Lib.hid (HB.out.trans (hb1.mono HB.out.size))
              have hks := HOK.out
              clear hb1
              go_wp2_with (at_lookup; refine wpList_lookup_own_int _ rfl _ _ 80 rfl 9 3 .i64 law_str Tryz.underlying80 Tryz.underlying3 (zero_int _) w.heap.size _ D rfl hM1 _ _ rfl (key_str hks) ?_)
              intro cc hat _
              obtain rfl : cc = 1 := by rw [HSD.out.at hat, HH.out]; rfl
              go_wp2_with (at_mapUpdate; refine wpList_mapUpdate_own _ rfl _ _ _ 80 rfl 9 3 law_str Tryz.underlying80 _ w.heap.size _ _ rfl hM1 ?c1 _ _ _ rfl rfl (key_str hks) (.lit (.int .i64 2)) [] (plainElem_int Tryz.underlying3 (by decide)) ?_)
              case c1 => unfold maxLen; omega
              intro w2 hM2 hgr
              have HB2 : Hid (Below w.heap.size w w2) := HB1.out.grown hgr HB1.out.size (fun q hq => by cases hq; exact Nat.le_refl _)
              go_wp2_with (at_lookup; refine wpList_lookup_own_int _ rfl _ _ 80 rfl 9 3 .i64 law_str Tryz.underlying80 Tryz.underlying3 (zero_int _) w.heap.size _ _ rfl hM2 _ _ rfl (key_str hks) ?_)
              intro c3 hat3 _
              rw [atKey_put_same hM1.isMap (by trivial)] at hat3
              obtain rfl : c3 = 2 := by simpa using hat3.symm
              go_wp2
              go_ret
              exact ⟨ret_int HX.out.symm, HB2.out⟩
            | false =>
              have HX : Hid (nameErr l k = 0) := by show nameErr l k = 0; unfold nameErr; rw [getD_at hlt, hnm, hh]; rfl
              have HH := Lib.hid hh
              have HTK : Hid (l.take (k + 1) = l.take k ++ [l[k]]) := List.take_succ_eq_append_getElem hlt
              clear hh hnm
              go_wp2_with (fail)
              refine HNC.out.mono ?_
              rintro e w1 ⟨rfl, hb1⟩
              have hM1 := owns_below HMP.out (B := 0) hb1
              have HB1 := Lib.hid (HB.out.trans (hb1.mono HB.out.size))
              have hks := HOK.out
              clear hb1
              go_wp2_with (at_lookup; refine wpList_lookup_own_int _ rfl _ _ 80 rfl 9 3 .i64 law_str Tryz.underlying80 Tryz.underlying3 (zero_int _) w.heap.size _ D rfl hM1 _ _ rfl (key_str hks) ?_)
              intro cc hat _
              obtain rfl : cc = 0 := by rw [HSD.out.at hat, HH.out]; rfl
              go_wp2_with (at_mapUpdate; refine wpList_mapUpdate_own _ rfl _ _ _ 80 rfl 9 3 law_str Tryz.underlying80 _ w.heap.size _ _ rfl hM1 ?c1 _ _ _ rfl rfl (key_str hks) (.lit (.int .i64 1)) [] (plainElem_int Tryz.underlying3 (by decide)) ?_)
              case c1 => unfold maxLen; omega
              intro w2 hM2 hgr
              have HB2 : Hid (Below w.heap.size w w2) := HB1.out.grown hgr HB1.out.size (fun q hq => by cases hq; exact Nat.le_refl _)
              have HS2 : Hid (SeenD (D.put (keyS l[k]) (.lit (.int .i64 1))) (l.take (k + 1))) := by
                unfold Hid; rw [HTK.out]; exact SeenD.add HSD.out hM1.isMap HH.out
              go_wp2_with (at_lookup; refine wpList_lookup_own_int _ rfl _ _ 80 rfl 9 3 .i64 law_str Tryz.underlying80 Tryz.underlying3 (zero_int _) w.heap.size _ _ rfl hM2 _ _ rfl (key_str hks) ?_)
              intro c3 hat3 _
              rw [atKey_put_same hM1.isMap (by trivial)] at hat3
              obtain rfl : c3 = 1 := by simpa using hat3.symm
              have HM2 := Lib.hid hM2
              clear hM2 hM1 hgr hat hat3
              go_wp2
              go_roundw
              case rel =>
                refine ⟨k + 1, _, _, by omega, by go_num, rfl, HB2.out, HM2.out, HS2.out, fun j hj => ?_⟩
                by_cases e : j = k
                · subst e; exact HX.out
                · exact HN.out j (by omega)
              case measure => simp [intOf]; omega
        · have HE : Hid (errNames l = 0) := errNames_none fun j hj => HN.out j (by omega)
          obtain rfl : k = l.length := by omega
          rw [List.take_length] at HSD
          clear HN hk
          go_wp2
          go_loopw [39] (fun i ws => ∃ (k : Nat) (w2 : World), k ≤ acts.length ∧ i = .int .i64 k ∧ w2 = ws ∧ Hid (Below wo.heap.size wo w2) ∧ Hid (∀ j (hj : j < acts.length), j < k → actOk l acts[j] = true)) (fun i _ => acts.length - (intOf i).toNat)
          case atStart => exact ⟨0, _, Nat.zero_le _, rfl, rfl, Below.refl _ _, fun j _ hj => absurd hj (Nat.not_lt_zero _)⟩
          case round =>
            obtain ⟨k2, w2, hk2, rfl, rfl, HB2, HN⟩ := hrel
            have HBW : Hid (Below w.heap.size w w2) := HB.out.trans (HB2.out.mono HB.out.size)
            by_cases hlt2 : k2 < acts.length
            · obtain ⟨g1, g2⟩ := HC2.out k2 hlt2
              have hcell1 : w2.cell? ⟨b2, o2 + k2 * 2, none⟩ = some (.string acts[k2].1) := (HBW.out.cell (cell_lt g1)).trans g1
              have hcell2 : w2.cell? ⟨b2, o2 + k2 * 2 + 1, none⟩ = some (.string acts[k2].2) := (HBW.out.cell (cell_lt g2)).trans g2
              obtain rfl := HP2.out (by omega)
              obtain ⟨q1, q2⟩ := HO.out _ (List.getElem_mem hlt2)
              obtain ⟨W3, eW3⟩ : ∃ W3, w2.alloc (.cells #[.string acts[k2].1, .string acts[k2].2] 99) = W3 := ⟨_, rfl⟩
              obtain ⟨z3, hW3, m3⟩ := boxes1 eW3
              have j0 := m3 0
              have j1 := m3 1
              simp only [List.getElem?_toArray, List.getElem?_cons_zero, List.getElem?_cons_succ] at j0 j1
              have hM3 := owns_below (owns_below HMP.out (B := 0) HB2.out) (B := 0) hW3
              have HB3 : Hid (Below wo.heap.size wo W3) := HB2.out.trans (hW3.mono HB2.out.size)
              have HBW3 : Hid (Below w.heap.size w W3) := HB.out.trans (HB3.out.mono HB.out.size)
              obtain ⟨c5, hrun5, hat5, _⟩ := hM3.lookup_int law_str Tryz.underlying80 Tryz.underlying3 (zero_int _) (key_str q2)
              clear g1 g2 m3 z3 hW3
              go_wp2_with (at_lookup; refine wpList_lookup_own_int _ rfl _ _ 80 rfl 9 3 .i64 law_str Tryz.underlying80 Tryz.underlying3 (zero_int _) w.heap.size _ D rfl hM3 _ _ rfl (key_str q1) ?_)
              intro cc hat _
              have hcc := HSD.out.at hat
              cases hh : has l acts[k2].1 with
              | false =>
                have HX : Hid (checkC l acts = 5) := checkC_acts h1 h2 HE.out hlt2 (by unfold actOk; rw [hh]; rfl)
                rw [hh] at hcc
                obtain rfl : cc = 0 := hcc
                go_wp2
                go_ret
                exact ⟨ret_int HX.out.symm, HBW3.out⟩
              | true =>
                rw [hh] at hcc
                obtain rfl : cc = 1 := hcc
                have hc5 := HSD.out.at hat5
                cases hh2 : has l acts[k2].2 with
                | false =>
                  have HX : Hid (checkC l acts = 5) := checkC_acts h1 h2 HE.out hlt2 (by unfold actOk; rw [hh, hh2]; rfl)
                  rw [hh2] at hc5
                  obtain rfl : c5 = 0 := hc5
                  go_wp2
                  go_ret
                  exact ⟨ret_int HX.out.symm, HBW3.out⟩
                | true =>
                  have HA : Hid (actOk l acts[k2] = true) := by show actOk l acts[k2] = true; unfold actOk; rw [hh, hh2]; rfl
                  rw [hh2] at hc5
                  obtain rfl : c5 = 1 := hc5
                  clear hat hat5 hM3 hh hh2
                  go_wp2
                  go_roundw
                  case rel =>
                    refine ⟨k2 + 1, _, by omega, by go_num, rfl, HB3.out, fun j hj hj' => ?_⟩
                    by_cases e : j = k2
                    · subst e; exact HA.out
                    · exact HN.out j hj (by omega)
                  case measure => simp [intOf]; omega
            · have HX : Hid (checkC l acts = 0) := checkC_ok h1 h2 HE.out (fun j hj => HN.out j hj (by omega))
              go_wp2
              go_ret
              exact ⟨ret_int HX.out.symm, HBW.out⟩
    · have h2' : 10 < (acts.length : Int) := by omega
      have h1' : ¬ 6 < (l.length : Int) := by omega
      have HX : Hid (checkC l acts = 2) := checkC_many (Or.inr (by omega))
      go_enter Tryz.func37, Tryz.ntmps37
      go_wp2
      go_ret
      exact ⟨ret_int HX.out.symm, Below.refl _ _⟩
  · have h1' : 6 < (l.length : Int) := by omega
    have HX : Hid (checkC l acts = 2) := checkC_many (Or.inl (by omega))
    go_enter Tryz.func37, Tryz.ntmps37
    go_wp2
    go_ret
    exact ⟨ret_int HX.out.symm, Below.refl _ _⟩
end Go.Proofs.YtcgihpfanfbonaaGreatDoor
namespace Go.Proofs.YtcgihpfanfbonaaGreatDoor
open Go.RowKit Go.Maps
set_option linter.unusedVariables false
set_option linter.unusedSimpArgs false

/-- `[]api.Label`. -/
abbrev LblsF (w : World) (l : List Lab) (v : Value) : Prop := SliceOf (Sl pol 2) 1 w l v
theorem LblsF.stays {w w' : World} (hk : Keeps w w') {l : List Lab} {v : Value} (h : LblsF w l v) : LblsF w' l v := SliceOf.stays (Sl.stays pol_stays 2) hk h
theorem LblsF.cells {w : World} {l : List Lab} {v : Value} (h : LblsF w l v) :
    ∃ b o c p, v = .slice p l.length c ∧ l.length ≤ c ∧ c ≤ 9223372036854775807 ∧ (0 < l.length → p = some ⟨b, o, none⟩) ∧ ∀ (i : Nat) (h : i < l.length), ∃ u, w.cell? ⟨b, o + i, none⟩ = some u ∧ Lbl w l[i] u := by
  obtain ⟨p, c, e, h1, h2, h3⟩ := h
  unfold maxLen at h2
  rcases h3 with rfl | ⟨b, o, hp, h3⟩
  · exact ⟨0, 0, c, p, e, h1, by omega, fun h => absurd h (by simp), fun i h => absurd h (by simp)⟩
  · refine ⟨b, o, c, p, e, h1, by omega, fun _ => hp, fun i hi => ?_⟩
    obtain ⟨vs, ⟨u, rfl, g1⟩, g2, g3⟩ := h3 i hi
    exact ⟨u, by simpa using g3 0 u rfl, g1⟩

/-- The first error of chiefs, then of some labels. -/
def badL (l : List Txt) (acts : List (Txt × Txt)) (ls : List Lab) : Int := if checkC l acts ≠ 0 then checkC l acts else (ls.find? fun x => labErr l x != 0).elim 0 (labErr l)
theorem badL_chiefs {l : List Txt} {acts : List (Txt × Txt)} {ls : List Lab} (h : checkC l acts ≠ 0) : badL l acts ls = checkC l acts := by unfold badL; rw [if_pos h]
theorem badL_at {l : List Txt} {acts : List (Txt × Txt)} {ls : List Lab} (h0 : checkC l acts = 0) {k : Nat} (hk : k < ls.length) (h : labErr l ls[k] ≠ 0) (hne : ∀ j (hj : j < ls.length), j < k → labErr l ls[j] = 0) : badL l acts ls = labErr l ls[k] := by
  unfold badL
  rw [if_neg (by simp [h0])]
  have : ls.find? (fun x => labErr l x != 0) = some ls[k] := by
    rw [List.find?_eq_some_iff_getElem]
    exact ⟨by simpa using h, k, hk, rfl, fun j hj => by simp [hne j (by omega) hj]⟩
  rw [this]; rfl
theorem badL_none {l : List Txt} {acts : List (Txt × Txt)} {ls : List Lab} (h0 : checkC l acts = 0) (hne : ∀ j (hj : j < ls.length), labErr l ls[j] = 0) : badL l acts ls = 0 := by
  unfold badL
  rw [if_neg (by simp [h0])]
  have : ls.find? (fun x => labErr l x != 0) = none := by
    rw [List.find?_eq_none]
    intro p hp
    obtain ⟨j, hj, rfl⟩ := List.getElem_of_mem hp
    simp [hne j hj]
  rw [this]; rfl
theorem badL_one (l : List Txt) (acts : List (Txt × Txt)) (a : Lab) : badL l acts [a] = labE l acts a := by
  unfold badL labE
  split
  · rfl
  · by_cases h : labErr l a = 0
    · simp [List.find?, h]
    · have : (labErr l a != 0) = true := by simpa using h
      simp [List.find?, this]
theorem badL_two (l : List Txt) (acts : List (Txt × Txt)) (a b : Lab) : badL l acts [a, b] = flowsE l acts a b := by
  unfold badL flowsE labE
  by_cases hc : checkC l acts = 0
  · simp only [hc, ne_eq, not_true_eq_false, if_false]
    by_cases h : labErr l a = 0
    · rw [if_neg (by simp [h])]
      by_cases h2 : labErr l b = 0
      · simp [List.find?, h, h2]
      · have : (labErr l b != 0) = true := by simpa using h2
        simp [List.find?, h, this]
    · have : (labErr l a != 0) = true := by simpa using h
      rw [if_pos (by simpa using h)]
      simp [List.find?, this]
  · have h : checkC l acts ≠ 0 := hc
    simp [h]

set_option maxHeartbeats 800000 in
set_option maxRecDepth 100000 in
theorem badLabels_calls (l : List Txt) (acts : List (Txt × Txt)) (ls : List Lab) (v u t : Value) (mx : Int) (w : World) (hv : Strs w l v) (hu : Prs w acts u) (ht : LblsF w ls t) (hl : okList okTxt l) (ho : okList (okBoth okTxt okTxt) acts) (hm : w.cell? ⟨0, 0, none⟩ = some (.int .i64 mx)) (hn : ls.length ≤ 1048576) :
    Calls Tryz.prog 9 #[v, u, t] w fun e w' => e = .returned (.int .i64 (badL l acts ls)) ∧ Below w.heap.size w w' := by
  have hv0 := hv
  have hu0 := hu
  have ht0 := ht
  obtain ⟨b0, o0, c0, p0, rfl, _⟩ := hv.cells
  obtain ⟨b1, o1, c1, p1, rfl, _⟩ := hu.cells
  obtain ⟨b2, o2, c2, p2, rfl, hlc2, hcm2, hp2, hcells2⟩ := ht.cells
  have HV : Hid (∀ W, Below w.heap.size w W → Strs W l (.slice p0 l.length c0)) := fun W h => hv0.stays (keeps_of_below h)
  have HCK : Hid (Calls Tryz.prog 37 #[.slice p0 l.length c0, .slice p1 acts.length c1] w fun e w' => e = .returned (.int .i64 (checkC l acts)) ∧ Below w.heap.size w w') :=
    refCheck_calls l acts _ _ mx w hv0 hu0 hl ho hm
  have HP2 := Lib.hid hp2
  have HC2 := Lib.hid hcells2
  clear hv hu ht hv0 hu0 ht0 hp2 hcells2 hm hl ho
  by_cases hc : checkC l acts = 0
  · have HC := Lib.hid hc
    clear hc
    go_enter Tryz.func9, Tryz.ntmps9
    go_wp2_with (fail)
    refine HCK.out.mono ?_
    rintro e w1 ⟨rfl, hb1⟩
    rw [HC.out]
    have HB1 := Lib.hid hb1
    clear hb1
    go_wp2
    go_loopw [19] (fun i wr => ∃ (k : Nat) (wo : World), k ≤ ls.length ∧ i = .int .i64 k ∧ wo = wr ∧ Hid (Below w1.heap.size w1 wo) ∧ Hid (∀ j (hj : j < ls.length), j < k → labErr l ls[j] = 0)) (fun i _ => ls.length - (intOf i).toNat)
    case atStart => exact ⟨0, _, Nat.zero_le _, rfl, rfl, Below.refl _ _, fun j _ hj => absurd hj (Nat.not_lt_zero _)⟩
    case round =>
      obtain ⟨k, wo, hk, rfl, rfl, HB, HM⟩ := hrel
      have HBW : Hid (Below w.heap.size w wo) := HB1.out.trans (HB.out.mono HB1.out.size)
      by_cases hlt : k < ls.length
      · obtain ⟨ux, hca, hux⟩ := HC2.out k hlt
        have hcell : wo.cell? ⟨b2, o2 + k, none⟩ = some ux := (HBW.out.cell (cell_lt hca)).trans hca
        obtain rfl := HP2.out (by omega)
        obtain ⟨bx, ox, cx, px, rfl, _⟩ := hux.cells
        have HCL : Hid (Calls Tryz.prog 24 #[.slice p0 l.length c0, .slice px ls[k].length cx] wo fun e w' => e = .returned (.int .i64 (labErr l ls[k])) ∧ Below wo.heap.size wo w') :=
          refLabel_calls l ls[k] _ _ wo (HV.out _ HBW.out) (hux.stays (keeps_of_below HBW.out))
        clear hca hux
        by_cases he : labErr l ls[k] = 0
        · have HE := Lib.hid he
          clear he
          go_wp2_with (fail)
          refine HCL.out.mono ?_
          rintro e w2 ⟨rfl, hb2⟩
          rw [HE.out]
          have HB2 := Lib.hid (HB.out.trans (hb2.mono HB.out.size))
          clear hb2
          go_wp2
          go_roundw
          case rel =>
            refine ⟨k + 1, _, by omega, by go_num, rfl, HB2.out, fun j hj hj' => ?_⟩
            by_cases e : j = k
            · subst e; exact HE.out
            · exact HM.out j hj (by omega)
          case measure => simp [intOf]; omega
        · have HX : Hid (badL l acts ls = labErr l ls[k]) := badL_at HC.out hlt he HM.out
          have hq : (labErr l ls[k] != 0) = true := by simpa using he
          have hq2 : (labErr l ls[k] == 0) = false := by simpa using he
          clear he
          go_wp2_with (fail)
          refine HCL.out.mono ?_
          rintro e w2 ⟨rfl, hb2⟩
          go_wp2
          go_ret
          exact ⟨ret_int HX.out.symm, HBW.out.trans (hb2.mono HBW.out.size)⟩
      · have HX : Hid (badL l acts ls = 0) := badL_none HC.out fun j hj => HM.out j hj (by omega)
        go_wp2
        go_ret
        exact ⟨ret_int HX.out.symm, HBW.out⟩
  · have HX : Hid (badL l acts ls = checkC l acts) := badL_chiefs hc
    have hq : (checkC l acts != 0) = true := by simpa using hc
    have hq2 : (checkC l acts == 0) = false := by simpa using hc
    clear hc
    go_enter Tryz.func9, Tryz.ntmps9
    go_wp2_with (fail)
    refine HCK.out.mono ?_
    rintro e w1 ⟨rfl, hb1⟩
    go_wp2
    go_ret
    exact ⟨ret_int HX.out.symm, hb1⟩
end Go.Proofs.YtcgihpfanfbonaaGreatDoor
