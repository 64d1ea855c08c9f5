/-
  cloisterlaw.ChiefSame: by the fewest pairs the same act for the same; without one of them somebody doesn't: the call returns true.
-/
import Derived.Test.YtianpbfieldngaaChiefed
import Derived.Test.YtianpbfieldngaaSameP
import Derived.Deep.RegionHeld3
namespace Go.Proofs.Ytianpbfieldngaa
open Go.RowKit
set_option linter.unusedVariables false
set_option linter.unusedSimpArgs false

theorem cap_le {w : World} {base : Nat} {e : TypeId} {size g n cap : Nat} {xs : List Value} (h : w.ownsRow base e size (.slice (some ⟨g, 0, none⟩) n cap) n xs) : cap ≤ 9223372036854775807 := by
  rcases h.2 with ⟨h, _⟩ | ⟨g', cap', cur, h, _, _, _, h2, _⟩
  · cases h
  · injection h with _ _ h; subst h; unfold maxLen at h2; omega
theorem len_le {w : World} {base : Nat} {e : TypeId} {size g n cap : Nat} {xs : List Value} (h : w.ownsRow base e size (.slice (some ⟨g, 0, none⟩) n cap) n xs) : n ≤ cap := by
  rcases h.2 with ⟨h, _⟩ | ⟨g', cap', cur, h, _, _, h1, _⟩
  · cases h
  · injection h with _ _ h; subst h; exact h1

set_option maxHeartbeats 1000000 in
set_option maxRecDepth 100000 in
theorem same_calls (l : List Txt) (acts : List (Txt × Txt)) (n : Int) (v u : Value) (w : World) (hv : Strs w l v) (hu : Prs w acts u) (hn : okNum n) :
    Calls Try.prog 4 #[v, u, .int .i64 n] w fun e w' => e = .returned (.bool true) ∧ Below w.heap.size w w' := by
  have hv0 := hv
  have hu0 := hu
  obtain ⟨b0, o, c, p, rfl, hlc, hcm, hp, hcells⟩ := hv.cells
  by_cases hE : leastE l acts = 0
  · by_cases hm : (leastR l acts).length ≤ 10
    · have HFor : Hid (∀ i (hi : i < l.length), forE l acts l[i] = 0 ∧ forE l (leastR l acts) l[i] = 0 ∧ forR l acts l[i] = forR l (leastR l acts) l[i]) :=
        fun i hi => least_for hE hm (has_iff.2 (List.getElem_mem hi))
      have HLess : Hid (∀ k (hk : k < (leastR l acts).length), actsE l ((leastR l acts).eraseIdx k) (leastR l acts)[k].1 (leastR l acts)[k].2 = 0 ∧ actsB l ((leastR l acts).eraseIdx k) (leastR l acts)[k].1 (leastR l acts)[k].2 = false) :=
        fun k hk => least_less hE hm hk
      have HM := Lib.hid hm
      go_enter Try.func4, Try.ntmps4
      go_wp2_with (fail)
      refine (least_calls l acts _ _ _ hv0 hu0).mono ?_
      rintro e w1 ⟨x, rfl, hx, hb1⟩
      rw [hE]
      have HE := Lib.hid hE
      have HN : Hid (∀ x ∈ leastR l acts, has l x.1 = true ∧ has l x.2 = true) := least_names hE
      clear hE hv hm
      generalize leastR l acts = m at *
      have hx0 := hx
      obtain ⟨bm, om, cm, pm, rfl, hlm, hcmm, hpm, hcellsm⟩ := hx.cells
      have hm10 : (m.length : Int) ≤ 10 := by have := HM.out; omega
      clear hx
      go_wp2_with (fail)
      refine (chiefed_calls _).mono ?_
      rintro e w2 ⟨rfl, hb2⟩
      have hbW : Below w.heap.size w w2 := hb1.trans (hb2.mono hb1.size)
      have hbM : Below w1.heap.size w1 w2 := hb2
      go_wp2
      go_loopw [36] (fun i wr => ∃ k : Nat, k ≤ l.length ∧ i = .int .i64 k ∧ Below w2.heap.size w2 wr) (fun i _ => l.length - (intOf i).toNat)
      case atStart => exact ⟨0, Nat.zero_le _, rfl, Below.refl _ _⟩
      case round =>
        obtain ⟨k, hk, rfl, hbr⟩ := hrel
        have hbw : Below w.heap.size w wr := hbW.trans (hbr.mono hbW.size)
        by_cases hlt : k < l.length
        · have hcell0 := hcells k hlt
          have hcell : wr.cell? ⟨b0, o + k, none⟩ = some (.string l[k]) := (hbw.cell (cell_lt hcell0)).trans hcell0
          obtain rfl := hp (by omega)
          have hF := HFor.out k hlt
          have HF := Lib.hid hF
          clear hp hcells hcell0 hF hpm hcellsm
          go_wp2_with (fail)
          refine (for_calls l acts l[k] _ _ _ (hv0.stays (keeps_of_below hbw)) (hu0.stays (keeps_of_below hbw))).mono ?_
          rintro e w3 ⟨x1, rfl, hx1, hb3⟩
          rw [HF.out.1]
          have hb3w : Below w.heap.size w w3 := hbw.trans (hb3.mono hbw.size)
          have hb3m : Below w1.heap.size w1 w3 := (hbM.trans (hbr.mono hbM.size)).trans (hb3.mono (hbM.trans (hbr.mono hbM.size)).size)
          go_wp2_with (fail)
          refine (for_calls l m l[k] _ _ _ (hv0.stays (keeps_of_below hb3w)) (hx0.stays (keeps_of_below hb3m))).mono ?_
          rintro e w4 ⟨x2, rfl, hx2, hb4⟩
          rw [HF.out.2.1]
          go_wp2_with (fail)
          refine (equalS_calls _ _ _ _ _ (hx1.stays (keeps_of_below hb4)) hx2).mono ?_
          rintro e w5 ⟨rfl, n5, rfl⟩
          have e5 : (forR l acts l[k] == forR l m l[k]) = true := by rw [beq_iff_eq]; exact HF.out.2.2
          rw [e5]
          go_wp2
          go_roundw
          case rel => exact ⟨k + 1, by omega, by go_num, below_drewN ((hbr.trans (hb3.mono hbr.size)).trans (hb4.mono (hbr.trans (hb3.mono hbr.size)).size)) n5⟩
          case measure => simp [intOf]; omega
        · obtain rfl : k = l.length := by omega
          by_cases hz : m.length = 0
          · have hz' : (m.length : Int) = 0 := by omega
            go_wp2
            go_ret
            exact ⟨rfl, hbw⟩
          · have hz' : ((m.length : Int) == 0) = false := by simp; exact fun h => hz (by rw [h]; rfl)
            obtain ⟨ki, hki, eki⟩ := atI_range n (n := m.length) (by omega)
            obtain rfl := hpm (by omega)
            obtain ⟨k1, k2⟩ := hcellsm ki hki
            have hbmr : Below w1.heap.size w1 wr := hbM.trans (hbr.mono hbM.size)
            have hc1 : wr.cell? ⟨bm, om + ki * 2, none⟩ = some (.string m[ki].1) := (hbmr.cell (cell_lt k1)).trans k1
            have hc2 : wr.cell? ⟨bm, om + ki * 2 + 1, none⟩ = some (.string m[ki].2) := (hbmr.cell (cell_lt k2)).trans k2
            have hbl : bm < wr.heap.size := cell_lt hc1
            have HMs : Hid (∀ w', Below wr.heap.size wr w' → Prs w' m (.slice (some ⟨bm, om, none⟩) m.length cm)) := fun w' hb' => hx0.stays (keeps_of_below (hbmr.trans (hb'.mono hbmr.size)))
            have HLs : Hid (∀ w', Below wr.heap.size wr w' → Strs w' l (.slice p l.length c)) := fun w' hb' => hv0.stays (keeps_of_below (hbw.trans (hb'.mono hbw.size)))
            have HL := Lib.hid (HLess.out ki hki)
            have HEk := Lib.hid eki
            have HBw := Lib.hid hbw
            clear k1 k2 hcellsm hpm hp hcells hbr hbw hbW hbM hb1 hb2 HFor HLess hx0 hv0 hu0 hu hbmr
            go_wp2_with (fail)
            refine (at_calls n m.length _ (by omega) (by omega) hn).mono ?_
            rintro e w' ⟨rfl, rfl⟩
            rw [HEk.out]
            clear eki
            have hw1 : IntKind.i64.wrap ((ki : Int) + 1) = (ki : Int) + 1 := by rw [IntKind.wrap_i64]; omega
            have hlim : (ki : Int) < (m.length : Int) := by omega
            go_wp2
            go_region_held3 (fun w' => w'.cell? ⟨bm, om + ki * 2, none⟩ = some (.string m[ki].1) ∧ w'.cell? ⟨bm, om + ki * 2 + 1, none⟩ = some (.string m[ki].2))
              (first | exact ⟨hc1, hc2⟩ | exact ⟨hc61, hc62⟩ | exact ⟨hc71, hc72⟩ | exact ⟨hc81, hc82⟩)
              (first
                | (go_at_call 14
                   refine (cloneP_calls m _ _ (HMs.out _ (Below.refl _ _).drew) (by omega) (by omega)).mono ?_
                   rintro e w6 ⟨g, cap, rfl, hown, hb6⟩
                   have hc61 : w6.cell? ⟨bm, om + ki * 2, none⟩ = some (.string m[ki].1) := (hb6.cell (p := ⟨bm, om + ki * 2, none⟩) hbl).trans hc1
                   have hc62 : w6.cell? ⟨bm, om + ki * 2 + 1, none⟩ = some (.string m[ki].2) := (hb6.cell (p := ⟨bm, om + ki * 2 + 1, none⟩) hbl).trans hc2
                   have hb6' : Below wr.heap.size wr w6 := (Below.refl wr.heap.size wr).drew.trans hb6)
                | (go_at_call 13
                   refine (deleteP_calls m wr.heap.size g cap ki _ hown hki (cap_le hown) (len_le hown)).mono ?_
                   rintro e w7 ⟨v7, rfl, hv7, hb7⟩
                   have hc71 : w7.cell? ⟨bm, om + ki * 2, none⟩ = some (.string m[ki].1) := (hb7.cell (p := ⟨bm, om + ki * 2, none⟩) hbl).trans hc61
                   have hc72 : w7.cell? ⟨bm, om + ki * 2 + 1, none⟩ = some (.string m[ki].2) := (hb7.cell (p := ⟨bm, om + ki * 2 + 1, none⟩) hbl).trans hc62
                   have hb7' : Below wr.heap.size wr w7 := hb6'.trans hb7)
                | (go_at_call 12
                   refine (acts_calls l (m.eraseIdx ki) _ _ _ _ _ (HLs.out _ hb7') hv7).mono ?_
                   rintro e w8 ⟨rfl, hb8⟩
                   have hc81 : w8.cell? ⟨bm, om + ki * 2, none⟩ = some (.string m[ki].1) := (hb8.cell (p := ⟨bm, om + ki * 2, none⟩) (Nat.lt_of_lt_of_le hbl hb7'.size)).trans hc71
                   have hc82 : w8.cell? ⟨bm, om + ki * 2 + 1, none⟩ = some (.string m[ki].2) := (hb8.cell (p := ⟨bm, om + ki * 2 + 1, none⟩) (Nat.lt_of_lt_of_le hbl hb7'.size)).trans hc72
                   have hb8' : Below wr.heap.size wr w8 := hb7'.trans (hb8.mono hb7'.size)
                   rw [HL.out.1, HL.out.2]))
            go_wp2
            go_ret
            exact ⟨rfl, HBw.out.trans (hb8'.mono HBw.out.size)⟩
    · have HM := Lib.hid hm
      go_enter Try.func4, Try.ntmps4
      go_wp2_with (fail)
      refine (least_calls l acts _ _ _ hv0 hu0).mono ?_
      rintro e w1 ⟨x, rfl, hx, hb1⟩
      rw [hE]
      clear hE hv hm
      generalize leastR l acts = m at *
      obtain ⟨bm, om, cm, pm, rfl, hlm, hcmm, hpm, hcellsm⟩ := hx.cells
      have hm10 : 10 < (m.length : Int) := by have := HM.out; omega
      clear hx
      go_wp2_with (fail)
      refine (chiefed_calls _).mono ?_
      rintro e w2 ⟨rfl, hb2⟩
      have hbW : Below w.heap.size w w2 := hb1.trans (hb2.mono hb1.size)
      go_wp2_with (fail)
      refine (chiefed_calls _).mono ?_
      rintro e w3 ⟨rfl, hb3⟩
      go_wp2
      go_ret
      exact ⟨rfl, hbW.trans (hb3.mono hbW.size)⟩
  · have hne : (leastE l acts != 0) = true := by simp [hE]
    have hne2 : (leastE l acts == 0) = false := by simp [hE]
    go_enter Try.func4, Try.ntmps4
    go_wp2_with (fail)
    refine (least_calls l acts _ _ _ hv0 hu0).mono ?_
    rintro e w1 ⟨x, rfl, hx, hb1⟩
    clear hE hv hx
    generalize leastE l acts = e0 at *
    go_wp2_with (fail)
    refine (chiefed_calls _).mono ?_
    rintro e w2 ⟨rfl, hb2⟩
    have hbW : Below w.heap.size w w2 := hb1.trans (hb2.mono hb1.size)
    go_wp2_with (fail)
    refine (chiefed_calls _).mono ?_
    rintro e w3 ⟨rfl, hb3⟩
    go_wp2
    go_ret
    exact ⟨rfl, hbW.trans (hb3.mono hbW.size)⟩
end Go.Proofs.Ytianpbfieldngaa
