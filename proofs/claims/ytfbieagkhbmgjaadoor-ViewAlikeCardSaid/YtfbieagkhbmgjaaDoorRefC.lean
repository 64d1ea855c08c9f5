/-
  The reference's CheckChiefs finds the same error as the program's check.
-/
import Derived.Test.YtfbieagkhbmgjaaDoorRefN
import Derived.Test.YtfbieagkhbmgjaaDoorRefM
namespace Go.Proofs.YtfbieagkhbmgjaaDoor
open Go.RowKit Go.Maps
set_option linter.unusedVariables false
set_option linter.unusedSimpArgs false

theorem owns_below {w w' : World} {M n : Nat} {D : DataW Unit} (h : w.ownsMap Tryd.prog 9 (plainElem Tryd.prog 3) M n D) {B : Nat} (hb : Below w.heap.size w w') : w'.ownsMap Tryd.prog 9 (plainElem Tryd.prog 3) M n D :=
  h.kept (row := none) ⟨hb.os, hb.tape, hb.output, hb.size, fun q hq _ => hb.block q hq⟩ (by simp)

set_option maxHeartbeats 2000000 in
set_option maxRecDepth 100000 in
theorem refCheck_calls (l : List Txt) (acts : List (Txt × Txt)) (v u : Value) (m : Int) (w : World) (hv : Strs w l v) (hu : Prs w acts u) (hl : okList okTxt l) (ho : ∀ p ∈ acts, okTxt p.1 ∧ okTxt p.2) (hm : w.cell? ⟨0, 0, none⟩ = some (.int .i64 m)) :
    Calls Tryd.prog 9 #[v, u] w fun e w' => e = .returned (.int .i64 (checkC l acts)) ∧ Below w.heap.size w w' := by
  obtain ⟨b, o, c, p, rfl, hlc, hc, hp, hcells⟩ := hv.cells
  obtain ⟨b2, o2, c2, p2, rfl, hlc2, hc2, hp2, hcells2⟩ := hu.cells
  have HM := Lib.hid hm
  have hmm := @run_makeMap Tryd.prog
  clear hv hu hm
  by_cases h1 : l.length ≤ 6
  · by_cases h2 : acts.length ≤ 10
    · have h1' : ¬ 6 < (l.length : Int) := by omega
      have h2' : ¬ 10 < (acts.length : Int) := by omega
      have HCE := Lib.hid hcells
      have HPP := Lib.hid hp
      have HC2 := Lib.hid hcells2
      have HP2 := Lib.hid hp2
      have HL := Lib.hid hl
      have HO := Lib.hid ho
      obtain ⟨W0, eW⟩ : ∃ W0, w.alloc (.map #[] 0) = W0 := ⟨_, rfl⟩
      have hB0 : Below w.heap.size w W0 := by rw [← eW]; exact (Below.refl _ _).alloc (Nat.le_refl _) _
      have hM0 : W0.ownsMap Tryd.prog 9 (plainElem Tryd.prog 3) w.heap.size 0 (.map [] : DataW Unit) := by
        rw [← eW]; exact World.ownsMap_made (H := Unit) w Tryd.prog 9 _
      have HB0 := Lib.hid hB0
      have HM0 := Lib.hid hM0
      clear hcells hp hcells2 hp2 hl ho hB0 hM0
      go_enter Tryd.func9, Tryd.ntmps9
      go_wp2
      go_loopw [21] (fun i ws => ∃ (k : Nat) (D : DataW Unit) (wo : World), k ≤ l.length ∧ i = .int .i64 k ∧ wo = ws ∧ Hid (Below w.heap.size w wo) ∧ Hid (wo.ownsMap Tryd.prog 9 (plainElem Tryd.prog 3) w.heap.size k D) ∧ Hid (SeenD D (l.take k)) ∧ Hid (∀ j, j < k → nameErr l j = 0)) (fun i _ => l.length - (intOf i).toNat)
      case atStart => exact ⟨0, _, _, Nat.zero_le _, rfl, rfl, HB0.out, HM0.out, SeenD.start, fun j hj => absurd hj (Nat.not_lt_zero _)⟩
      case round =>
        obtain ⟨k, D, wo, hk, rfl, rfl, HB, HMP, HSD, HN⟩ := hrel
        by_cases hlt : k < l.length
        · have g0 := HCE.out k hlt
          have hcell : wo.cell? ⟨b, o + k, none⟩ = some (.string l[k]) := (HB.out.cell (cell_lt g0)).trans g0
          obtain rfl := HPP.out (by omega)
          have HOK : Hid (okTxt l[k]) := HL.out _ (List.getElem_mem hlt)
          have HMC : Hid (wo.cell? ⟨0, 0, none⟩ = some (.int .i64 m)) := (HB.out.cell (cell_lt HM.out)).trans HM.out
          have HNC := Lib.hid (refName_calls l[k] m wo HOK.out HMC.out)
          clear g0
          cases hnm : isName l[k] with
          | false =>
            have HX : Hid (checkC l acts = 4) := checkC_name h1 h2 hlt HN.out (by unfold nameErr; rw [getD_at hlt, hnm]; rfl) (by omega)
            rw [hnm] at HNC
            go_wp2_with (fail)
            refine HNC.out.mono ?_
            rintro e w1 ⟨rfl, hb1⟩
            go_wp2
            go_ret
            exact ⟨ret_int HX.out.symm, HB.out.trans (hb1.mono HB.out.size)⟩
          | true =>
            rw [hnm] at HNC
            cases hh : has (l.take k) l[k] with
            | true =>
              have HX : Hid (checkC l acts = 6) := checkC_name h1 h2 hlt HN.out (by unfold nameErr; rw [getD_at hlt, hnm, hh]; rfl) (by omega)
              have HH := Lib.hid hh
              clear hh hnm
              go_wp2_with (fail)
              refine HNC.out.mono ?_
              rintro e w1 ⟨rfl, hb1⟩
              have hM1 := owns_below HMP.out (B := 0) hb1
              have HB1 := Lib.hid (HB.out.trans (hb1.mono HB.out.size))
              have hks := HOK.out
              clear hb1
              go_wp2_with (at_lookup; refine wpList_lookup_own_int _ rfl _ _ 80 rfl 9 3 .i64 law_str Tryd.underlying80 Tryd.underlying3 (zero_int _) w.heap.size _ D rfl hM1 _ _ rfl (key_str hks) ?_)
              intro cc hat _
              obtain rfl : cc = 1 := by rw [HSD.out.at hat, HH.out]; rfl
              go_wp2_with (at_mapUpdate; refine wpList_mapUpdate_own _ rfl _ _ _ 80 rfl 9 3 law_str Tryd.underlying80 _ w.heap.size _ _ rfl hM1 ?c1 _ _ _ rfl rfl (key_str hks) (.lit (.int .i64 2)) [] (plainElem_int Tryd.underlying3 (by decide)) ?_)
              case c1 => unfold maxLen; omega
              intro w2 hM2 hgr
              have HB2 : Hid (Below w.heap.size w w2) := HB1.out.grown hgr HB1.out.size (fun q hq => by cases hq; exact Nat.le_refl _)
              go_wp2_with (at_lookup; refine wpList_lookup_own_int _ rfl _ _ 80 rfl 9 3 .i64 law_str Tryd.underlying80 Tryd.underlying3 (zero_int _) w.heap.size _ _ rfl hM2 _ _ rfl (key_str hks) ?_)
              intro c3 hat3 _
              rw [atKey_put_same hM1.isMap (by trivial)] at hat3
              obtain rfl : c3 = 2 := by simpa using hat3.symm
              go_wp2
              go_ret
              exact ⟨ret_int HX.out.symm, HB2.out⟩
            | false =>
              have HX : Hid (nameErr l k = 0) := by show nameErr l k = 0; unfold nameErr; rw [getD_at hlt, hnm, hh]; rfl
              have HH := Lib.hid hh
              have HTK : Hid (l.take (k + 1) = l.take k ++ [l[k]]) := List.take_succ_eq_append_getElem hlt
              clear hh hnm
              go_wp2_with (fail)
              refine HNC.out.mono ?_
              rintro e w1 ⟨rfl, hb1⟩
              have hM1 := owns_below HMP.out (B := 0) hb1
              have HB1 := Lib.hid (HB.out.trans (hb1.mono HB.out.size))
              have hks := HOK.out
              clear hb1
              go_wp2_with (at_lookup; refine wpList_lookup_own_int _ rfl _ _ 80 rfl 9 3 .i64 law_str Tryd.underlying80 Tryd.underlying3 (zero_int _) w.heap.size _ D rfl hM1 _ _ rfl (key_str hks) ?_)
              intro cc hat _
              obtain rfl : cc = 0 := by rw [HSD.out.at hat, HH.out]; rfl
              go_wp2_with (at_mapUpdate; refine wpList_mapUpdate_own _ rfl _ _ _ 80 rfl 9 3 law_str Tryd.underlying80 _ w.heap.size _ _ rfl hM1 ?c1 _ _ _ rfl rfl (key_str hks) (.lit (.int .i64 1)) [] (plainElem_int Tryd.underlying3 (by decide)) ?_)
              case c1 => unfold maxLen; omega
              intro w2 hM2 hgr
              have HB2 : Hid (Below w.heap.size w w2) := HB1.out.grown hgr HB1.out.size (fun q hq => by cases hq; exact Nat.le_refl _)
              have HS2 : Hid (SeenD (D.put (keyS l[k]) (.lit (.int .i64 1))) (l.take (k + 1))) := by
                unfold Hid; rw [HTK.out]; exact SeenD.add HSD.out hM1.isMap HH.out
              go_wp2_with (at_lookup; refine wpList_lookup_own_int _ rfl _ _ 80 rfl 9 3 .i64 law_str Tryd.underlying80 Tryd.underlying3 (zero_int _) w.heap.size _ _ rfl hM2 _ _ rfl (key_str hks) ?_)
              intro c3 hat3 _
              rw [atKey_put_same hM1.isMap (by trivial)] at hat3
              obtain rfl : c3 = 1 := by simpa using hat3.symm
              have HM2 := Lib.hid hM2
              clear hM2 hM1 hgr hat hat3
              go_wp2
              go_roundw
              case rel =>
                refine ⟨k + 1, _, _, by omega, by go_num, rfl, HB2.out, HM2.out, HS2.out, fun j hj => ?_⟩
                by_cases e : j = k
                · subst e; exact HX.out
                · exact HN.out j (by omega)
              case measure => simp [intOf]; omega
        · have HE : Hid (errNames l = 0) := errNames_none fun j hj => HN.out j (by omega)
          obtain rfl : k = l.length := by omega
          rw [List.take_length] at HSD
          clear HN hk
          go_wp2
          go_loopw [39] (fun i ws => ∃ (k : Nat) (w2 : World), k ≤ acts.length ∧ i = .int .i64 k ∧ w2 = ws ∧ Hid (Below wo.heap.size wo w2) ∧ Hid (∀ j (hj : j < acts.length), j < k → actOk l acts[j] = true)) (fun i _ => acts.length - (intOf i).toNat)
          case atStart => exact ⟨0, _, Nat.zero_le _, rfl, rfl, Below.refl _ _, fun j _ hj => absurd hj (Nat.not_lt_zero _)⟩
          case round =>
            obtain ⟨k2, w2, hk2, rfl, rfl, HB2, HN⟩ := hrel
            have HBW : Hid (Below w.heap.size w w2) := HB.out.trans (HB2.out.mono HB.out.size)
            by_cases hlt2 : k2 < acts.length
            · obtain ⟨g1, g2⟩ := HC2.out k2 hlt2
              have hcell1 : w2.cell? ⟨b2, o2 + k2 * 2, none⟩ = some (.string acts[k2].1) := (HBW.out.cell (cell_lt g1)).trans g1
              have hcell2 : w2.cell? ⟨b2, o2 + k2 * 2 + 1, none⟩ = some (.string acts[k2].2) := (HBW.out.cell (cell_lt g2)).trans g2
              obtain rfl := HP2.out (by omega)
              obtain ⟨q1, q2⟩ := HO.out _ (List.getElem_mem hlt2)
              obtain ⟨W3, eW3⟩ : ∃ W3, w2.alloc (.cells #[.string acts[k2].1, .string acts[k2].2] 33) = W3 := ⟨_, rfl⟩
              obtain ⟨z3, hW3, m3⟩ := boxes1 eW3
              have j0 := m3 0
              have j1 := m3 1
              simp only [List.getElem?_toArray, List.getElem?_cons_zero, List.getElem?_cons_succ] at j0 j1
              have hM3 := owns_below (owns_below HMP.out (B := 0) HB2.out) (B := 0) hW3
              have HB3 : Hid (Below wo.heap.size wo W3) := HB2.out.trans (hW3.mono HB2.out.size)
              have HBW3 : Hid (Below w.heap.size w W3) := HB.out.trans (HB3.out.mono HB.out.size)
              obtain ⟨c5, hrun5, hat5, _⟩ := hM3.lookup_int law_str Tryd.underlying80 Tryd.underlying3 (zero_int _) (key_str q2)
              clear g1 g2 m3 z3 hW3
              go_wp2_with (at_lookup; refine wpList_lookup_own_int _ rfl _ _ 80 rfl 9 3 .i64 law_str Tryd.underlying80 Tryd.underlying3 (zero_int _) w.heap.size _ D rfl hM3 _ _ rfl (key_str q1) ?_)
              intro cc hat _
              have hcc := HSD.out.at hat
              cases hh : has l acts[k2].1 with
              | false =>
                have HX : Hid (checkC l acts = 5) := checkC_acts h1 h2 HE.out hlt2 (by unfold actOk; rw [hh]; rfl)
                rw [hh] at hcc
                obtain rfl : cc = 0 := hcc
                go_wp2
                go_ret
                exact ⟨ret_int HX.out.symm, HBW3.out⟩
              | true =>
                rw [hh] at hcc
                obtain rfl : cc = 1 := hcc
                have hc5 := HSD.out.at hat5
                cases hh2 : has l acts[k2].2 with
                | false =>
                  have HX : Hid (checkC l acts = 5) := checkC_acts h1 h2 HE.out hlt2 (by unfold actOk; rw [hh, hh2]; rfl)
                  rw [hh2] at hc5
                  obtain rfl : c5 = 0 := hc5
                  go_wp2
                  go_ret
                  exact ⟨ret_int HX.out.symm, HBW3.out⟩
                | true =>
                  have HA : Hid (actOk l acts[k2] = true) := by show actOk l acts[k2] = true; unfold actOk; rw [hh, hh2]; rfl
                  rw [hh2] at hc5
                  obtain rfl : c5 = 1 := hc5
                  clear hat hat5 hM3 hh hh2
                  go_wp2
                  go_roundw
                  case rel =>
                    refine ⟨k2 + 1, _, by omega, by go_num, rfl, HB3.out, fun j hj hj' => ?_⟩
                    by_cases e : j = k2
                    · subst e; exact HA.out
                    · exact HN.out j hj (by omega)
                  case measure => simp [intOf]; omega
            · have HX : Hid (checkC l acts = 0) := checkC_ok h1 h2 HE.out (fun j hj => HN.out j hj (by omega))
              go_wp2
              go_ret
              exact ⟨ret_int HX.out.symm, HBW.out⟩
    · have h2' : 10 < (acts.length : Int) := by omega
      have h1' : ¬ 6 < (l.length : Int) := by omega
      have HX : Hid (checkC l acts = 2) := checkC_many (Or.inr (by omega))
      go_enter Tryd.func9, Tryd.ntmps9
      go_wp2
      go_ret
      exact ⟨ret_int HX.out.symm, Below.refl _ _⟩
  · have h1' : 6 < (l.length : Int) := by omega
    have HX : Hid (checkC l acts = 2) := checkC_many (Or.inl (by omega))
    go_enter Tryd.func9, Tryd.ntmps9
    go_wp2
    go_ret
    exact ⟨ret_int HX.out.symm, Below.refl _ _⟩
end Go.Proofs.YtfbieagkhbmgjaaDoor
