/-
  cloisterlaw.badLabels: the first error of some labels; cloisterlaw.LabelFlows: the call returns true.
-/
import Derived.Test.YtfbieagkhbmgjaaDoorRefL
import Derived.Test.YtfbieagkhbmgjaaDoorRefC
namespace Go.Proofs.YtfbieagkhbmgjaaDoor
open Go.RowKit Go.Maps
set_option linter.unusedVariables false
set_option linter.unusedSimpArgs false

/-- `[]api.Label`. -/
abbrev LblsF (w : World) (l : List Lab) (v : Value) : Prop := SliceOf (Sl pol 2) 1 w l v
theorem LblsF.stays {w w' : World} (hk : Keeps w w') {l : List Lab} {v : Value} (h : LblsF w l v) : LblsF w' l v := SliceOf.stays (Sl.stays pol_stays 2) hk h
theorem LblsF.cells {w : World} {l : List Lab} {v : Value} (h : LblsF w l v) :
    ∃ b o c p, v = .slice p l.length c ∧ l.length ≤ c ∧ c ≤ 9223372036854775807 ∧ (0 < l.length → p = some ⟨b, o, none⟩) ∧ ∀ (i : Nat) (h : i < l.length), ∃ u, w.cell? ⟨b, o + i, none⟩ = some u ∧ Lbl w l[i] u := by
  obtain ⟨p, c, e, h1, h2, h3⟩ := h
  unfold maxLen at h2
  rcases h3 with rfl | ⟨b, o, hp, h3⟩
  · exact ⟨0, 0, c, p, e, h1, by omega, fun h => absurd h (by simp), fun i h => absurd h (by simp)⟩
  · refine ⟨b, o, c, p, e, h1, by omega, fun _ => hp, fun i hi => ?_⟩
    obtain ⟨vs, ⟨u, rfl, g1⟩, g2, g3⟩ := h3 i hi
    exact ⟨u, by simpa using g3 0 u rfl, g1⟩

/-- The first error of chiefs, then of some labels. -/
def badL (l : List Txt) (acts : List (Txt × Txt)) (ls : List Lab) : Int := if checkC l acts ≠ 0 then checkC l acts else (ls.find? fun x => labErr l x != 0).elim 0 (labErr l)
theorem badL_chiefs {l : List Txt} {acts : List (Txt × Txt)} {ls : List Lab} (h : checkC l acts ≠ 0) : badL l acts ls = checkC l acts := by unfold badL; rw [if_pos h]
theorem badL_at {l : List Txt} {acts : List (Txt × Txt)} {ls : List Lab} (h0 : checkC l acts = 0) {k : Nat} (hk : k < ls.length) (h : labErr l ls[k] ≠ 0) (hne : ∀ j (hj : j < ls.length), j < k → labErr l ls[j] = 0) : badL l acts ls = labErr l ls[k] := by
  unfold badL
  rw [if_neg (by simp [h0])]
  have : ls.find? (fun x => labErr l x != 0) = some ls[k] := by
    rw [List.find?_eq_some_iff_getElem]
    exact ⟨by simpa using h, k, hk, rfl, fun j hj => by simp [hne j (by omega) hj]⟩
  rw [this]; rfl
theorem badL_none {l : List Txt} {acts : List (Txt × Txt)} {ls : List Lab} (h0 : checkC l acts = 0) (hne : ∀ j (hj : j < ls.length), labErr l ls[j] = 0) : badL l acts ls = 0 := by
  unfold badL
  rw [if_neg (by simp [h0])]
  have : ls.find? (fun x => labErr l x != 0) = none := by
    rw [List.find?_eq_none]
    intro p hp
    obtain ⟨j, hj, rfl⟩ := List.getElem_of_mem hp
    simp [hne j hj]
  rw [this]; rfl
theorem badL_one (l : List Txt) (acts : List (Txt × Txt)) (a : Lab) : badL l acts [a] = labE l acts a := by
  unfold badL labE
  split
  · rfl
  · by_cases h : labErr l a = 0
    · simp [List.find?, h]
    · have : (labErr l a != 0) = true := by simpa using h
      simp [List.find?, this]
theorem badL_two (l : List Txt) (acts : List (Txt × Txt)) (a b : Lab) : badL l acts [a, b] = flowsE l acts a b := by
  unfold badL flowsE labE
  by_cases hc : checkC l acts = 0
  · simp only [hc, ne_eq, not_true_eq_false, if_false]
    by_cases h : labErr l a = 0
    · rw [if_neg (by simp [h])]
      by_cases h2 : labErr l b = 0
      · simp [List.find?, h, h2]
      · have : (labErr l b != 0) = true := by simpa using h2
        simp [List.find?, h, this]
    · have : (labErr l a != 0) = true := by simpa using h
      rw [if_pos (by simpa using h)]
      simp [List.find?, this]
  · have h : checkC l acts ≠ 0 := hc
    simp [h]

set_option maxHeartbeats 800000 in
set_option maxRecDepth 100000 in
theorem badLabels_calls (l : List Txt) (acts : List (Txt × Txt)) (ls : List Lab) (v u t : Value) (mx : Int) (w : World) (hv : Strs w l v) (hu : Prs w acts u) (ht : LblsF w ls t) (hl : okList okTxt l) (ho : okList (okBoth okTxt okTxt) acts) (hm : w.cell? ⟨0, 0, none⟩ = some (.int .i64 mx)) (hn : ls.length ≤ 1048576) :
    Calls Tryd.prog 33 #[v, u, t] w fun e w' => e = .returned (.int .i64 (badL l acts ls)) ∧ Below w.heap.size w w' := by
  have hv0 := hv
  have hu0 := hu
  have ht0 := ht
  obtain ⟨b0, o0, c0, p0, rfl, _⟩ := hv.cells
  obtain ⟨b1, o1, c1, p1, rfl, _⟩ := hu.cells
  obtain ⟨b2, o2, c2, p2, rfl, hlc2, hcm2, hp2, hcells2⟩ := ht.cells
  have HV : Hid (∀ W, Below w.heap.size w W → Strs W l (.slice p0 l.length c0)) := fun W h => hv0.stays (keeps_of_below h)
  have HCK : Hid (Calls Tryd.prog 9 #[.slice p0 l.length c0, .slice p1 acts.length c1] w fun e w' => e = .returned (.int .i64 (checkC l acts)) ∧ Below w.heap.size w w') :=
    refCheck_calls l acts _ _ mx w hv0 hu0 hl ho hm
  have HP2 := Lib.hid hp2
  have HC2 := Lib.hid hcells2
  clear hv hu ht hv0 hu0 ht0 hp2 hcells2 hm hl ho
  by_cases hc : checkC l acts = 0
  · have HC := Lib.hid hc
    clear hc
    go_enter Tryd.func33, Tryd.ntmps33
    go_wp2_with (fail)
    refine HCK.out.mono ?_
    rintro e w1 ⟨rfl, hb1⟩
    rw [HC.out]
    have HB1 := Lib.hid hb1
    clear hb1
    go_wp2
    go_loopw [19] (fun i wr => ∃ (k : Nat) (wo : World), k ≤ ls.length ∧ i = .int .i64 k ∧ wo = wr ∧ Hid (Below w1.heap.size w1 wo) ∧ Hid (∀ j (hj : j < ls.length), j < k → labErr l ls[j] = 0)) (fun i _ => ls.length - (intOf i).toNat)
    case atStart => exact ⟨0, _, Nat.zero_le _, rfl, rfl, Below.refl _ _, fun j _ hj => absurd hj (Nat.not_lt_zero _)⟩
    case round =>
      obtain ⟨k, wo, hk, rfl, rfl, HB, HM⟩ := hrel
      have HBW : Hid (Below w.heap.size w wo) := HB1.out.trans (HB.out.mono HB1.out.size)
      by_cases hlt : k < ls.length
      · obtain ⟨ux, hca, hux⟩ := HC2.out k hlt
        have hcell : wo.cell? ⟨b2, o2 + k, none⟩ = some ux := (HBW.out.cell (cell_lt hca)).trans hca
        obtain rfl := HP2.out (by omega)
        obtain ⟨bx, ox, cx, px, rfl, _⟩ := hux.cells
        have HCL : Hid (Calls Tryd.prog 28 #[.slice p0 l.length c0, .slice px ls[k].length cx] wo fun e w' => e = .returned (.int .i64 (labErr l ls[k])) ∧ Below wo.heap.size wo w') :=
          refLabel_calls l ls[k] _ _ wo (HV.out _ HBW.out) (hux.stays (keeps_of_below HBW.out))
        clear hca hux
        by_cases he : labErr l ls[k] = 0
        · have HE := Lib.hid he
          clear he
          go_wp2_with (fail)
          refine HCL.out.mono ?_
          rintro e w2 ⟨rfl, hb2⟩
          rw [HE.out]
          have HB2 := Lib.hid (HB.out.trans (hb2.mono HB.out.size))
          clear hb2
          go_wp2
          go_roundw
          case rel =>
            refine ⟨k + 1, _, by omega, by go_num, rfl, HB2.out, fun j hj hj' => ?_⟩
            by_cases e : j = k
            · subst e; exact HE.out
            · exact HM.out j hj (by omega)
          case measure => simp [intOf]; omega
        · have HX : Hid (badL l acts ls = labErr l ls[k]) := badL_at HC.out hlt he HM.out
          have hq : (labErr l ls[k] != 0) = true := by simpa using he
          have hq2 : (labErr l ls[k] == 0) = false := by simpa using he
          clear he
          go_wp2_with (fail)
          refine HCL.out.mono ?_
          rintro e w2 ⟨rfl, hb2⟩
          go_wp2
          go_ret
          exact ⟨ret_int HX.out.symm, HBW.out.trans (hb2.mono HBW.out.size)⟩
      · have HX : Hid (badL l acts ls = 0) := badL_none HC.out fun j hj => HM.out j hj (by omega)
        go_wp2
        go_ret
        exact ⟨ret_int HX.out.symm, HBW.out⟩
  · have HX : Hid (badL l acts ls = checkC l acts) := badL_chiefs hc
    have hq : (checkC l acts != 0) = true := by simpa using hc
    have hq2 : (checkC l acts == 0) = false := by simpa using hc
    clear hc
    go_enter Tryd.func33, Tryd.ntmps33
    go_wp2_with (fail)
    refine HCK.out.mono ?_
    rintro e w1 ⟨rfl, hb1⟩
    go_wp2
    go_ret
    exact ⟨ret_int HX.out.symm, hb1⟩
end Go.Proofs.YtfbieagkhbmgjaaDoor
