/-
  cloisterlaw.ChiefActs: the call returns true.
-/
import Derived.Test.YtfbieagkhbmgjaaDoorChiefed
import Derived.Test.YtfbieagkhbmgjaaDoorRefC
import Derived.Test.YtfbieagkhbmgjaaDoorRefA
import Derived.Test.YtfbieagkhbmgjaaDoorLeastL
namespace Go.Proofs.YtfbieagkhbmgjaaDoor
open Go.RowKit
set_option linter.unusedVariables false
set_option linter.unusedSimpArgs false

theorem nil_readsA {α : Type} (E : Enc α) (k : Nat) (w : World) : SliceOf E k w [] (.slice none 0 0) := ⟨none, 0, rfl, by simp, by unfold maxLen; omega, .inl rfl⟩
theorem forTo_actsHit {l : List Txt} {acts : List (Txt × Txt)} {b : Txt} (hc : checkC l acts = 0) (hb : has l b = true) {k : Nat} (hk : k < l.length) (h : actsF acts l[k] b = true) : forTo l acts b (k + 1) = forTo l acts b k ++ [l[k]] :=
  forTo_hit hk (by rw [actM_actsL hc (has_iff.2 (List.getElem_mem hk)) hb]; exact h)
theorem forTo_actsMiss {l : List Txt} {acts : List (Txt × Txt)} {b : Txt} (hc : checkC l acts = 0) (hb : has l b = true) {k : Nat} (hk : k < l.length) (h : actsF acts l[k] b = false) : forTo l acts b (k + 1) = forTo l acts b k :=
  forTo_miss hk (by rw [actM_actsL hc (has_iff.2 (List.getElem_mem hk)) hb]; exact h)

set_option maxHeartbeats 4000000 in
set_option maxRecDepth 100000 in
theorem chiefActs_calls (l : List Txt) (acts : List (Txt × Txt)) (a b : Txt) (v u : Value) (mx : Int) (w : World) (hv : Strs w l v) (hu : Prs w acts u) (hl : okList okTxt l) (ho : okList (okBoth okTxt okTxt) acts) (hoa : okTxt a) (hob : okTxt b) (hm : w.cell? ⟨0, 0, none⟩ = some (.int .i64 mx)) :
    Calls Tryd.prog 4 #[v, u, .string a, .string b] w fun e w' => e = .returned (.bool true) ∧ Below w.heap.size w w' := by
  have hv0 := hv
  have hu0 := hu
  obtain ⟨b0, o0, c0, p0, rfl, hlc, hcm, hp, hcells⟩ := hv.cells
  obtain ⟨b1, o1, c1, p1, rfl, _⟩ := hu.cells
  obtain ⟨t0, hi, hz0, hz1, hz2⟩ := info_parts Tryd.info_string
  have HV : Hid (∀ W, Below w.heap.size w W → Strs W l (.slice p0 l.length c0)) := fun W h => hv0.stays (keeps_of_below h)
  have HU : Hid (∀ W, Below w.heap.size w W → Prs W acts (.slice p1 acts.length c1)) := fun W h => hu0.stays (keeps_of_below h)
  have HM := Lib.hid hm
  have HL := Lib.hid hl
  have HO : Hid (∀ p ∈ acts, okTxt p.1 ∧ okTxt p.2) := ho
  have HPP := Lib.hid hp
  have HCE := Lib.hid hcells
  have HCK : Hid (∀ W, Below w.heap.size w W → Calls Tryd.prog 9 #[.slice p0 l.length c0, .slice p1 acts.length c1] W fun e w' => e = .returned (.int .i64 (checkC l acts)) ∧ Below W.heap.size W w') := fun W h =>
    refCheck_calls l acts _ _ mx W (HV.out W h) (HU.out W h) hl ho ((h.cell (cell_lt hm)).trans hm)
  have HC2 : Hid (∀ W, Below w.heap.size w W → Calls Tryd.prog 18 #[.slice p0 l.length c0, .slice p1 acts.length c1] W fun e w' => e = .returned (.int .i64 (checkC l acts)) ∧ Below W.heap.size W w') := fun W h =>
    check_calls l acts _ _ W (HV.out W h) (HU.out W h)
  have HFOR : Hid (∀ W, Below w.heap.size w W → Calls Tryd.prog 17 #[.slice p0 l.length c0, .slice p1 acts.length c1, .string b] W fun e w' => ∃ x, e = .returned (.tuple #[x, .int .i64 (forE l acts b)]) ∧ Strs w' (forR l acts b) x ∧ Below W.heap.size W w') := fun W h =>
    for_calls l acts b _ _ W (HV.out W h) (HU.out W h)
  have HACT : Hid (Calls Tryd.prog 16 #[.slice p0 l.length c0, .slice p1 acts.length c1, .string a, .string b] w fun e w' => e = .returned (.tuple #[.bool (actsB l acts a b), .int .i64 (actsE l acts a b)]) ∧ Below w.heap.size w w') :=
    acts_calls l acts a b _ _ w hv0 hu0
  have HCON : Hid (∀ W x, Below w.heap.size w W → Calls Tryd.prog 19 #[.slice p0 l.length c0, .string x] W fun e w' => e = .returned (.bool (has l x)) ∧ W = w') := fun W x h => contains_calls l x _ W (HV.out W h)
  have HRA : Hid (∀ W x, acts.length ≤ 10 → Below w.heap.size w W → Calls Tryd.prog 12 #[.slice p1 acts.length c1, .string x, .string b] W fun e w' => e = .returned (.bool (actsF acts x b)) ∧ Below W.heap.size W w') := fun W x h10 h => refActs_calls acts x b _ W (HU.out W h) (by omega)
  clear hv0 hu0 hv hu hm hl ho hp hcells
  by_cases hc : checkC l acts = 0
  · have HC := Lib.hid hc
    have HN10 : Hid (acts.length ≤ 10) := (checkC_zero hc).2.1
    have hl6 : l.length ≤ 6 := (checkC_zero hc).1
    have hEF : ∀ h : has l b = true, forE l acts b = 0 ∧ forR l acts b = forTo l acts b l.length := fun h => by
      have e1 : forE l acts b = 0 := by unfold forE; rw [if_neg (by omega), h]; rfl
      exact ⟨e1, by unfold forR forTo forL; rw [if_pos e1, List.take_length]⟩
    cases hhb : has l b with
    | false =>
      have HHB := Lib.hid hhb
      have HF1 : Hid (forE l acts b = 5) := by unfold Hid forE; rw [if_neg (by omega), hhb]; rfl
      have HF2 : Hid (forR l acts b = []) := by unfold Hid forR; rw [if_neg (by rw [HF1.out]; decide)]
      have hw := acts_who (a := a) (b := b) hc (by rw [hhb, Bool.and_false])
      have HE1 := Lib.hid hw.2
      have HE2 := Lib.hid hw.1
      have HHA : Hid (has l a = true ∨ has l a = false) := by unfold Hid; cases has l a <;> simp
      clear hc hhb hw hEF
      rcases HHA.out with hha | hha
      · have HHA2 := Lib.hid hha
        clear hha
        go_enter Tryd.func4, Tryd.ntmps4
        go_wp2_with (fail)
        refine HACT.out.mono ?_
        rintro e w1 ⟨rfl, hb1⟩
        have HB1 := Lib.hid hb1
        clear hb1
        rw [HE1.out, HE2.out]
        go_wp2_with (fail)
        refine (HFOR.out _ HB1.out).mono ?_
        rintro e w2 ⟨x, rfl, hx, hb2⟩
        rw [HF1.out]
        rw [HF2.out] at hx
        obtain ⟨bx, ox, cx, px, rfl, _⟩ := hx.cells
        have HX := Lib.hid hx
        have HB2 := Lib.hid (HB1.out.trans (hb2.mono HB1.out.size))
        clear hx hb2
        go_wp2_with (fail)
        refine (HCK.out _ HB2.out).mono ?_
        rintro e w3 ⟨rfl, hb3⟩
        rw [HC.out]
        have HB3 := Lib.hid (HB2.out.trans (hb3.mono HB2.out.size))
        have HX3 := Lib.hid (HX.out.stays (keeps_of_below hb3))
        clear hb3
        go_wp2_with (fail)
        refine (chiefed_calls _).mono ?_
        rintro e w4 ⟨rfl, hb4⟩
        have HB4 := Lib.hid (HB3.out.trans (hb4.mono HB3.out.size))
        have HX4 := Lib.hid (HX3.out.stays (keeps_of_below hb4))
        clear hb4
        go_wp2_with (fail)
        refine (HC2.out _ HB4.out).mono ?_
        rintro e w5 ⟨rfl, hb5⟩
        rw [HC.out]
        have HB5 := Lib.hid (HB4.out.trans (hb5.mono HB4.out.size))
        have HX5 := Lib.hid (HX4.out.stays (keeps_of_below hb5))
        clear hb5
        go_wp2_with (fail)
        refine (HCON.out _ _ HB5.out).mono ?_
        rintro e w' ⟨rfl, rfl⟩
        rw [HHA2.out]
        go_wp2_with (fail)
        refine (HCON.out _ _ HB5.out).mono ?_
        rintro e w' ⟨rfl, rfl⟩
        rw [HHB.out]
        go_wp2_with (fail)
        refine (HCON.out _ _ HB5.out).mono ?_
        rintro e w' ⟨rfl, rfl⟩
        rw [HHB.out]
        go_wp2
        go_ret
        exact ⟨rfl, HB5.out⟩
      · have HHA2 := Lib.hid hha
        clear hha
        go_enter Tryd.func4, Tryd.ntmps4
        go_wp2_with (fail)
        refine HACT.out.mono ?_
        rintro e w1 ⟨rfl, hb1⟩
        have HB1 := Lib.hid hb1
        clear hb1
        rw [HE1.out, HE2.out]
        go_wp2_with (fail)
        refine (HFOR.out _ HB1.out).mono ?_
        rintro e w2 ⟨x, rfl, hx, hb2⟩
        rw [HF1.out]
        rw [HF2.out] at hx
        obtain ⟨bx, ox, cx, px, rfl, _⟩ := hx.cells
        have HX := Lib.hid hx
        have HB2 := Lib.hid (HB1.out.trans (hb2.mono HB1.out.size))
        clear hx hb2
        go_wp2_with (fail)
        refine (HCK.out _ HB2.out).mono ?_
        rintro e w3 ⟨rfl, hb3⟩
        rw [HC.out]
        have HB3 := Lib.hid (HB2.out.trans (hb3.mono HB2.out.size))
        have HX3 := Lib.hid (HX.out.stays (keeps_of_below hb3))
        clear hb3
        go_wp2_with (fail)
        refine (chiefed_calls _).mono ?_
        rintro e w4 ⟨rfl, hb4⟩
        have HB4 := Lib.hid (HB3.out.trans (hb4.mono HB3.out.size))
        have HX4 := Lib.hid (HX3.out.stays (keeps_of_below hb4))
        clear hb4
        go_wp2_with (fail)
        refine (HC2.out _ HB4.out).mono ?_
        rintro e w5 ⟨rfl, hb5⟩
        rw [HC.out]
        have HB5 := Lib.hid (HB4.out.trans (hb5.mono HB4.out.size))
        have HX5 := Lib.hid (HX4.out.stays (keeps_of_below hb5))
        clear hb5
        go_wp2_with (fail)
        refine (HCON.out _ _ HB5.out).mono ?_
        rintro e w' ⟨rfl, rfl⟩
        rw [HHA2.out]
        go_wp2_with (fail)
        refine (HCON.out _ _ HB5.out).mono ?_
        rintro e w' ⟨rfl, rfl⟩
        rw [HHB.out]
        go_wp2
        go_ret
        exact ⟨rfl, HB5.out⟩
    | true =>
      have HHB := Lib.hid hhb
      obtain ⟨f1, f2⟩ := hEF hhb
      have HF1 := Lib.hid f1
      have HFR := Lib.hid f2
      cases hha : has l a with
      | false =>
        have hw := acts_who (a := a) (b := b) hc (by rw [hha, Bool.false_and])
        have HE1 := Lib.hid hw.2
        have HE2 := Lib.hid hw.1
        have HHA := Lib.hid hha
        clear hc hhb hw hEF f1 f2 hha
        go_enter Tryd.func4, Tryd.ntmps4
        go_wp2_with (fail)
        refine HACT.out.mono ?_
        rintro e w1 ⟨rfl, hb1⟩
        have HB1 := Lib.hid hb1
        clear hb1
        rw [HE1.out, HE2.out]
        go_wp2_with (fail)
        refine (HFOR.out _ HB1.out).mono ?_
        rintro e w2 ⟨x, rfl, hx, hb2⟩
        rw [HF1.out]
        obtain ⟨bx, ox, cx, px, rfl, _⟩ := hx.cells
        have HX := Lib.hid hx
        have HB2 := Lib.hid (HB1.out.trans (hb2.mono HB1.out.size))
        clear hx hb2
        go_wp2_with (fail)
        refine (HCK.out _ HB2.out).mono ?_
        rintro e w3 ⟨rfl, hb3⟩
        rw [HC.out]
        have HB3 := Lib.hid (HB2.out.trans (hb3.mono HB2.out.size))
        have HX3 := Lib.hid (HX.out.stays (keeps_of_below hb3))
        clear hb3
        go_wp2_with (fail)
        refine (chiefed_calls _).mono ?_
        rintro e w4 ⟨rfl, hb4⟩
        have HB4 := Lib.hid (HB3.out.trans (hb4.mono HB3.out.size))
        have HX4 := Lib.hid (HX3.out.stays (keeps_of_below hb4))
        clear hb4
        go_wp2_with (fail)
        refine (HC2.out _ HB4.out).mono ?_
        rintro e w5 ⟨rfl, hb5⟩
        rw [HC.out]
        have HB5 := Lib.hid (HB4.out.trans (hb5.mono HB4.out.size))
        have HX5 := Lib.hid (HX4.out.stays (keeps_of_below hb5))
        clear hb5
        go_wp2_with (fail)
        refine (HCON.out _ _ HB5.out).mono ?_
        rintro e w' ⟨rfl, rfl⟩
        rw [HHA.out]
        go_wp2_with (fail)
        refine (HCON.out _ _ HB5.out).mono ?_
        rintro e w' ⟨rfl, rfl⟩
        rw [HHB.out]
        go_wp2
        go_loopw [15, 79] (fun x i ws => ∃ (k : Nat) (wo : World) (xv : Value), k ≤ l.length ∧ i = .int .i64 k ∧ wo = ws ∧ xv = x ∧ Hid (Below w5.heap.size w5 wo) ∧ Hid (wo.ownsRow w5.heap.size 9 1 xv (forTo l acts b k).length ((forTo l acts b k).map Value.string))) (fun _ i _ => l.length - (intOf i).toNat)
        case atStart => exact ⟨0, _, _, Nat.zero_le _, rfl, rfl, rfl, Below.refl _ _, World.ownsRow_nil _ _ _ _⟩
        case round =>
          obtain ⟨k, wo, xv, hk, rfl, rfl, rfl, HB, HOW⟩ := hrel
          have HBW : Hid (Below w.heap.size w wo) := HB5.out.trans (HB.out.mono HB5.out.size)
          by_cases hlt : k < l.length
          · have g0 := HCE.out k hlt
            have hcell : wo.cell? ⟨b0, o0 + k, none⟩ = some (.string l[k]) := (HBW.out.cell (cell_lt g0)).trans g0
            obtain rfl := HPP.out (by omega)
            have hle := forTo_le l acts b k
            have HLT := Lib.hid hlt
            clear g0
            cases hq : actsF acts l[k] b with
            | true =>
              have HHIT := Lib.hid (forTo_actsHit HC.out HHB.out hlt hq)
              have HQ := Lib.hid hq
              clear hq
              go_wp2_with (fail)
              refine (HRA.out wo l[k] HN10.out HBW.out).mono ?_
              rintro e w6 ⟨rfl, hb6⟩
              rw [HQ.out]
              have HB6 := Lib.hid (HB.out.trans (hb6.mono HB.out.size))
              have hown6 := own_belowA HOW.out hb6
              have hsz6 := HB6.out.size
              clear hb6
              go_wp2_with (at_builtin; refine wpList_append_own _ rfl _ _ 22 rfl w5.heap.size 9 t0 (.string ByteArray.empty) 1 16 Tryd.underlying22 hi hz0 hz1 hz2 rfl (by decide) _ _ _ rfl (hown6.alloc _) ⟨w6.heap.size, 0, none⟩ 1 1 [.string l[k]] rfl rfl ?c1 ?c2 ?c3 ?c4 ?c5 ?_)
              case c1 =>
                intro i u hj
                match i, hj with
                | 0, hj => simp at hj; subst hj; simp [Addr.add]; try rfl
              case c2 => intro u hu; simp at hu; subst hu; rfl
              case c3 => unfold maxLen; omega
              case c4 => omega
              case c5 => simp; omega
              · intro v' w7 hown' hgrow _
                go_wp2
                go_roundw
                case rel =>
                  refine ⟨k + 1, _, _, by omega, by go_num, rfl, rfl, (HB6.out.alloc HB6.out.size _).grown hgrow (by simp; omega) (fun q hq => (hown6.lt q hq).1), ?_⟩
                  unfold Hid
                  rw [HHIT.out]
                  have hfin : ∀ (xs : List Value), xs = (forTo l acts b k).map Value.string ++ [.string l[k]] → w7.ownsRow w5.heap.size 9 1 v' ((forTo l acts b k).length + 1) xs := fun xs hx => by rw [hx]; exact hown'
                  rw [List.length_append, List.map_append]
                  exact hfin _ rfl
                case measure => simp [intOf]; omega
            | false =>
              have HMISS := Lib.hid (forTo_actsMiss HC.out HHB.out hlt hq)
              have HQ := Lib.hid hq
              clear hq
              go_wp2_with (fail)
              refine (HRA.out wo l[k] HN10.out HBW.out).mono ?_
              rintro e w6 ⟨rfl, hb6⟩
              rw [HQ.out]
              have HB6 := Lib.hid (HB.out.trans (hb6.mono HB.out.size))
              have HOW6 := Lib.hid (own_belowA HOW.out hb6)
              clear hb6
              go_wp2
              go_roundw
              case rel => exact ⟨k + 1, _, _, by omega, by go_num, rfl, rfl, HB6.out, by unfold Hid; rw [HMISS.out]; exact HOW6.out⟩
              case measure => simp [intOf]; omega
          · obtain rfl : k = l.length := by omega
            have hW := Strs.of_owns HOW.out
            rw [← HFR.out] at hW
            obtain ⟨by_, oy, cy, py, rfl, _⟩ := hW.cells
            have HEQ := Lib.hid (equalS_calls (forR l acts b) (forR l acts b) _ _ wo (HX5.out.stays (keeps_of_below HB.out)) hW)
            rw [HFR.out] at HEQ ⊢
            clear hW
            go_wp2_with (fail)
            refine HEQ.out.mono ?_
            rintro e w8 ⟨rfl, n8, rfl⟩
            have e8 : (forTo l acts b l.length == forTo l acts b l.length) = true := by rw [beq_iff_eq]
            rw [e8]
            have HB8 : Hid (Below w.heap.size w (wo.drewN n8)) := below_drewN HBW.out n8
            clear e8
            go_wp2
            go_ret
            exact ⟨rfl, HB8.out⟩
      | true =>
        have hw := acts_ok hc hha hhb
        have HE2 := Lib.hid hw.1
        have HE1 : Hid (actsB l acts a b = actsF acts a b) := by unfold Hid; rw [hw.2]; exact actM_actsL hc hha hhb
        have HHA := Lib.hid hha
        clear hc hhb hw hEF f1 f2 hha
        go_enter Tryd.func4, Tryd.ntmps4
        go_wp2_with (fail)
        refine HACT.out.mono ?_
        rintro e w1 ⟨rfl, hb1⟩
        have HB1 := Lib.hid hb1
        clear hb1
        rw [HE1.out, HE2.out]
        go_wp2_with (fail)
        refine (HFOR.out _ HB1.out).mono ?_
        rintro e w2 ⟨x, rfl, hx, hb2⟩
        rw [HF1.out]
        obtain ⟨bx, ox, cx, px, rfl, _⟩ := hx.cells
        have HX := Lib.hid hx
        have HB2 := Lib.hid (HB1.out.trans (hb2.mono HB1.out.size))
        clear hx hb2
        go_wp2_with (fail)
        refine (HCK.out _ HB2.out).mono ?_
        rintro e w3 ⟨rfl, hb3⟩
        rw [HC.out]
        have HB3 := Lib.hid (HB2.out.trans (hb3.mono HB2.out.size))
        have HX3 := Lib.hid (HX.out.stays (keeps_of_below hb3))
        clear hb3
        go_wp2_with (fail)
        refine (chiefed_calls _).mono ?_
        rintro e w4 ⟨rfl, hb4⟩
        have HB4 := Lib.hid (HB3.out.trans (hb4.mono HB3.out.size))
        have HX4 := Lib.hid (HX3.out.stays (keeps_of_below hb4))
        clear hb4
        go_wp2_with (fail)
        refine (HC2.out _ HB4.out).mono ?_
        rintro e w5 ⟨rfl, hb5⟩
        rw [HC.out]
        have HB5 := Lib.hid (HB4.out.trans (hb5.mono HB4.out.size))
        have HX5 := Lib.hid (HX4.out.stays (keeps_of_below hb5))
        clear hb5
        go_wp2_with (fail)
        refine (HCON.out _ _ HB5.out).mono ?_
        rintro e w' ⟨rfl, rfl⟩
        rw [HHA.out]
        go_wp2_with (fail)
        refine (HCON.out _ _ HB5.out).mono ?_
        rintro e w' ⟨rfl, rfl⟩
        rw [HHB.out]
        go_wp2_with (fail)
        refine (HCON.out _ _ HB5.out).mono ?_
        rintro e w' ⟨rfl, rfl⟩
        rw [HHB.out]
        go_wp2
        go_loopw [15, 79] (fun x i ws => ∃ (k : Nat) (wo : World) (xv : Value), k ≤ l.length ∧ i = .int .i64 k ∧ wo = ws ∧ xv = x ∧ Hid (Below w5.heap.size w5 wo) ∧ Hid (wo.ownsRow w5.heap.size 9 1 xv (forTo l acts b k).length ((forTo l acts b k).map Value.string))) (fun _ i _ => l.length - (intOf i).toNat)
        case atStart => exact ⟨0, _, _, Nat.zero_le _, rfl, rfl, rfl, Below.refl _ _, World.ownsRow_nil _ _ _ _⟩
        case round =>
          obtain ⟨k, wo, xv, hk, rfl, rfl, rfl, HB, HOW⟩ := hrel
          have HBW : Hid (Below w.heap.size w wo) := HB5.out.trans (HB.out.mono HB5.out.size)
          by_cases hlt : k < l.length
          · have g0 := HCE.out k hlt
            have hcell : wo.cell? ⟨b0, o0 + k, none⟩ = some (.string l[k]) := (HBW.out.cell (cell_lt g0)).trans g0
            obtain rfl := HPP.out (by omega)
            have hle := forTo_le l acts b k
            have HLT := Lib.hid hlt
            clear g0
            cases hq : actsF acts l[k] b with
            | true =>
              have HHIT := Lib.hid (forTo_actsHit HC.out HHB.out hlt hq)
              have HQ := Lib.hid hq
              clear hq
              go_wp2_with (fail)
              refine (HRA.out wo l[k] HN10.out HBW.out).mono ?_
              rintro e w6 ⟨rfl, hb6⟩
              rw [HQ.out]
              have HB6 := Lib.hid (HB.out.trans (hb6.mono HB.out.size))
              have hown6 := own_belowA HOW.out hb6
              have hsz6 := HB6.out.size
              clear hb6
              go_wp2_with (at_builtin; refine wpList_append_own _ rfl _ _ 22 rfl w5.heap.size 9 t0 (.string ByteArray.empty) 1 16 Tryd.underlying22 hi hz0 hz1 hz2 rfl (by decide) _ _ _ rfl (hown6.alloc _) ⟨w6.heap.size, 0, none⟩ 1 1 [.string l[k]] rfl rfl ?c1 ?c2 ?c3 ?c4 ?c5 ?_)
              case c1 =>
                intro i u hj
                match i, hj with
                | 0, hj => simp at hj; subst hj; simp [Addr.add]; try rfl
              case c2 => intro u hu; simp at hu; subst hu; rfl
              case c3 => unfold maxLen; omega
              case c4 => omega
              case c5 => simp; omega
              · intro v' w7 hown' hgrow _
                go_wp2
                go_roundw
                case rel =>
                  refine ⟨k + 1, _, _, by omega, by go_num, rfl, rfl, (HB6.out.alloc HB6.out.size _).grown hgrow (by simp; omega) (fun q hq => (hown6.lt q hq).1), ?_⟩
                  unfold Hid
                  rw [HHIT.out]
                  have hfin : ∀ (xs : List Value), xs = (forTo l acts b k).map Value.string ++ [.string l[k]] → w7.ownsRow w5.heap.size 9 1 v' ((forTo l acts b k).length + 1) xs := fun xs hx => by rw [hx]; exact hown'
                  rw [List.length_append, List.map_append]
                  exact hfin _ rfl
                case measure => simp [intOf]; omega
            | false =>
              have HMISS := Lib.hid (forTo_actsMiss HC.out HHB.out hlt hq)
              have HQ := Lib.hid hq
              clear hq
              go_wp2_with (fail)
              refine (HRA.out wo l[k] HN10.out HBW.out).mono ?_
              rintro e w6 ⟨rfl, hb6⟩
              rw [HQ.out]
              have HB6 := Lib.hid (HB.out.trans (hb6.mono HB.out.size))
              have HOW6 := Lib.hid (own_belowA HOW.out hb6)
              clear hb6
              go_wp2
              go_roundw
              case rel => exact ⟨k + 1, _, _, by omega, by go_num, rfl, rfl, HB6.out, by unfold Hid; rw [HMISS.out]; exact HOW6.out⟩
              case measure => simp [intOf]; omega
          · obtain rfl : k = l.length := by omega
            have hW := Strs.of_owns HOW.out
            rw [← HFR.out] at hW
            obtain ⟨by_, oy, cy, py, rfl, _⟩ := hW.cells
            have HEQ := Lib.hid (equalS_calls (forR l acts b) (forR l acts b) _ _ wo (HX5.out.stays (keeps_of_below HB.out)) hW)
            rw [HFR.out] at HEQ ⊢
            clear hW
            go_wp2_with (fail)
            refine HEQ.out.mono ?_
            rintro e w8 ⟨rfl, n8, rfl⟩
            have e8 : (forTo l acts b l.length == forTo l acts b l.length) = true := by rw [beq_iff_eq]
            rw [e8]
            have HB8 : Hid (Below w.heap.size w (wo.drewN n8)) := below_drewN HBW.out n8
            clear e8
            go_wp2_with (fail)
            refine (HRA.out _ a HN10.out HB8.out).mono ?_
            rintro e w9 ⟨rfl, hb9⟩
            have HB9 : Hid (Below w.heap.size w w9) := HB8.out.trans (hb9.mono HB8.out.size)
            clear hb9
            cases actsF acts a b
            all_goals go_wp2
            all_goals go_ret
            all_goals exact ⟨rfl, HB9.out⟩
  · have hq : (checkC l acts != 0) = true := by simpa using hc
    have hq2 : (checkC l acts == 0) = false := by simpa using hc
    have hw := acts_bad (a := a) (b := b) hc
    have HE1 := Lib.hid hw.2
    have HE2 := Lib.hid hw.1
    have HF1 : Hid (forE l acts b = checkC l acts) := by unfold Hid forE; rw [if_pos hc]
    have HF2 : Hid (forR l acts b = []) := by unfold Hid forR; rw [if_neg (by rw [HF1.out]; exact hc)]
    clear hc hw
    go_enter Tryd.func4, Tryd.ntmps4
    go_wp2_with (fail)
    refine HACT.out.mono ?_
    rintro e w1 ⟨rfl, hb1⟩
    have HB1 := Lib.hid hb1
    clear hb1
    rw [HE1.out, HE2.out]
    go_wp2_with (fail)
    refine (HFOR.out _ HB1.out).mono ?_
    rintro e w2 ⟨x, rfl, hx, hb2⟩
    rw [HF1.out]
    rw [HF2.out] at hx
    obtain ⟨bx, ox, cx, px, rfl, _⟩ := hx.cells
    have HX := Lib.hid hx
    have HB2 := Lib.hid (HB1.out.trans (hb2.mono HB1.out.size))
    clear hx hb2
    go_wp2_with (fail)
    refine (HCK.out _ HB2.out).mono ?_
    rintro e w3 ⟨rfl, hb3⟩
    have HB3 := Lib.hid (HB2.out.trans (hb3.mono HB2.out.size))
    have HX3 := Lib.hid (HX.out.stays (keeps_of_below hb3))
    clear hb3
    go_wp2_with (fail)
    refine (chiefed_calls _).mono ?_
    rintro e w4 ⟨rfl, hb4⟩
    have HB4 := Lib.hid (HB3.out.trans (hb4.mono HB3.out.size))
    have HX4 := Lib.hid (HX3.out.stays (keeps_of_below hb4))
    clear hb4
    go_wp2_with (fail)
    refine (HC2.out _ HB4.out).mono ?_
    rintro e w5 ⟨rfl, hb5⟩
    have HB5 := Lib.hid (HB4.out.trans (hb5.mono HB4.out.size))
    have HX5 := Lib.hid (HX4.out.stays (keeps_of_below hb5))
    clear hb5
    go_wp2
    go_ret
    exact ⟨rfl, HB5.out⟩
end Go.Proofs.YtfbieagkhbmgjaaDoor
