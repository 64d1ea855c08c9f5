/-
  cloisterlaw.SolveBroken: the call returns true.
-/
import Derived.Test.YtcgihpfanfbonaaGreatDoorSB03
namespace Go.Proofs.YtcgihpfanfbonaaGreatDoor
open Go.RowKit Go.Maps
set_option linter.unusedVariables false
set_option linter.unusedSimpArgs false

theorem labsErr_snoc (l : List Txt) (acts : List (Txt × Txt)) (x : List Lab) (y : Lab) : labsErr l acts (x ++ [y]) = if labsErr l acts x ≠ 0 then labsErr l acts x else labE l acts y := by
  by_cases h : labsErr l acts x = 0
  · rw [if_neg (by simp [h])]
    have h0 := labsErr_zero.1 h
    by_cases hy : labE l acts y = 0
    · rw [hy]
      refine labsErr_zero.2 fun z hz => ?_
      rcases List.mem_append.1 hz with hz | hz
      · exact h0 z hz
      · rw [List.mem_singleton.1 hz]; exact hy
    · have hl : x.length < (x ++ [y]).length := by simp
      have e : (x ++ [y])[x.length] = y := by simp
      have := labsErr_at (l := l) (acts := acts) (m := x ++ [y]) hl (by rw [e]; exact hy) (fun j hj hjl => by
        rw [List.getElem_append_left hjl]
        exact h0 _ (List.getElem_mem hjl))
      rw [this, e]
  · rw [if_pos h]
    unfold labsErr at h ⊢
    rw [List.find?_append]
    cases hf : x.find? (fun x => labE l acts x != 0) with
    | none => rw [hf] at h; exact absurd rfl h
    | some z => rfl
/-- The first error after so many labels. -/
def badTo (l : List Txt) (acts : List (Txt × Txt)) (m : List Lab) (bs : List Bnd) (k : Nat) : Int := if solveE l acts m.length bs ≠ 0 then solveE l acts m.length bs else labsErr l acts (m.take k)
theorem badTo_zero (l : List Txt) (acts : List (Txt × Txt)) (m : List Lab) (bs : List Bnd) : badTo l acts m bs 0 = solveE l acts m.length bs := by
  unfold badTo
  split
  · rfl
  · rename_i h
    rw [List.take_zero]
    have : solveE l acts m.length bs = 0 := by omega
    rw [this]; rfl
theorem badTo_all (l : List Txt) (acts : List (Txt × Txt)) (m : List Lab) (bs : List Bnd) : badTo l acts m bs m.length = brokenE l acts m bs := by unfold badTo brokenE; rw [List.take_length]
theorem badTo_keep {l : List Txt} {acts : List (Txt × Txt)} {m : List Lab} {bs : List Bnd} {k : Nat} (hk : k < m.length) (h : badTo l acts m bs k ≠ 0) : badTo l acts m bs (k + 1) = badTo l acts m bs k := by
  unfold badTo at *
  by_cases h1 : solveE l acts m.length bs ≠ 0
  · rw [if_pos h1, if_pos h1]
  · rw [if_neg h1] at h
    rw [if_neg h1, if_neg h1, List.take_succ_eq_append_getElem hk, labsErr_snoc, if_pos h]
theorem badTo_next {l : List Txt} {acts : List (Txt × Txt)} {m : List Lab} {bs : List Bnd} {k : Nat} (hk : k < m.length) (h : badTo l acts m bs k = 0) : badTo l acts m bs (k + 1) = labErr l m[k] := by
  unfold badTo at *
  by_cases h1 : solveE l acts m.length bs ≠ 0
  · rw [if_pos h1] at h; exact absurd h h1
  · rw [if_neg h1] at h
    have hc : checkC l acts = 0 := (solveE_zero (Decidable.not_not.1 h1)).1
    rw [if_neg h1, List.take_succ_eq_append_getElem hk, labsErr_snoc, if_neg (by simp [h]), labE_ok hc]

set_option maxHeartbeats 4000000 in
set_option maxRecDepth 100000 in
theorem solveBroken_calls (l : List Txt) (acts : List (Txt × Txt)) (m : List Lab) (bs : List Bnd) (v u vm s : Value) (mx : Int) (w : World) (hv : Strs w l v) (hu : Prs w acts u) (hm : Labs w m vm) (hs : Bnds w bs s)
    (hl : okList okTxt l) (ho : ∀ p ∈ acts, okTxt p.1 ∧ okTxt p.2) (hmo : ∀ x ∈ m, okLab x) (hbo : okList okBnd bs) (hmx : w.cell? ⟨0, 0, none⟩ = some (.int .i64 mx)) :
    Calls Tryz.prog 5 #[v, u, vm, s] w fun e w' => e = .returned (.bool true) ∧ Below w.heap.size w w' := by
  have HBK := broken_calls l acts m bs v u vm s w hv hu hm hs hl hmo hbo
  have hv0 := hv
  have hu0 := hu
  have hm0 := hm
  have hs0 := hs
  obtain ⟨b0, o0, c0, p0, rfl, _⟩ := hv.cells
  obtain ⟨b1, o1, c1, p1, rfl, _⟩ := hu.cells
  obtain ⟨b3, o3, c3, p3, rfl, hlc3, hcm3, hp3, hcells3⟩ := hm.cells
  obtain ⟨b2, o2, c2, p2, rfl, _⟩ := hs.cells
  have HBK := Lib.hid HBK
  have HV : Hid (∀ W, Below w.heap.size w W → Strs W l (.slice p0 l.length c0)) := fun W h => hv0.stays (keeps_of_below h)
  have HU : Hid (∀ W, Below w.heap.size w W → Prs W acts (.slice p1 acts.length c1)) := fun W h => hu0.stays (keeps_of_below h)
  have HM : Hid (∀ W, Below w.heap.size w W → Labs W m (.slice p3 m.length c3)) := fun W h => hm0.stays (keeps_of_below h)
  have HS : Hid (∀ W, Below w.heap.size w W → Bnds W bs (.slice p2 bs.length c2)) := fun W h => hs0.stays (keeps_of_below h)
  have HBB : Hid (∀ W, Below w.heap.size w W → Calls Tryz.prog 19 #[.slice p0 l.length c0, .slice p1 acts.length c1, .int .i64 (m.length : Int), .slice p2 bs.length c2] W fun e w' => e = .returned (.int .i64 (solveE l acts m.length bs)) ∧ Below W.heap.size W w') := fun W h =>
    badBounds_calls l acts m.length bs _ _ _ mx W (HV.out W h) (HU.out W h) (HS.out W h) hl ho ((h.cell (cell_lt hmx)).trans hmx)
  have HCL := Lib.hid hcells3
  have HP3 := Lib.hid hp3
  clear hv hu hm hs hv0 hu0 hm0 hs0 hcells3 hp3 hl ho hmo hbo hmx
  go_enter Tryz.func5, Tryz.ntmps5
  go_wp2_with (fail)
  refine HBK.out.mono ?_
  rintro e w1 ⟨y, rfl, hy, hb1⟩
  obtain ⟨_, _, cy, py, rfl, _⟩ := hy.cells
  have HY := Lib.hid hy
  have HB1 := Lib.hid hb1
  clear hy hb1 HBK
  go_wp2_with (fail)
  refine (HBB.out w1 HB1.out).mono ?_
  rintro e w2 ⟨rfl, hb2⟩
  have HB2 := Lib.hid (HB1.out.trans (hb2.mono HB1.out.size))
  have HY2 := Lib.hid (HY.out.stays (keeps_of_below hb2))
  clear hb2
  go_wp2
  go_loopw [11, 30] (fun g i ws => ∃ (k : Nat) (wo : World), k ≤ m.length ∧ i = .int .i64 k ∧ g = .int .i64 (badTo l acts m bs k) ∧ wo = ws ∧ Hid (Below w2.heap.size w2 wo)) (fun _ i _ => m.length - (intOf i).toNat)
  case atStart => exact ⟨0, _, Nat.zero_le _, rfl, by rw [badTo_zero], rfl, Below.refl _ _⟩
  case round =>
    obtain ⟨k, wo, hk, rfl, rfl, rfl, HBR⟩ := hrel
    have HBW : Hid (Below w.heap.size w wo) := HB2.out.trans (HBR.out.mono HB2.out.size)
    by_cases hlt : k < m.length
    · obtain ⟨uk, g0, g1⟩ := HCL.out k hlt
      obtain rfl := HP3.out (by omega)
      have k0 : wo.cell? ⟨b3, o3 + k, none⟩ = some uk := (HBW.out.cell (cell_lt g0)).trans g0
      have hkeep := badTo_keep (l := l) (acts := acts) (bs := bs) hlt
      have hnext := badTo_next (l := l) (acts := acts) (bs := bs) hlt
      have hlk := g1.stays (keeps_of_below HBW.out)
      generalize m[k] = xk at *
      obtain ⟨_, _, ck, pk_, rfl, _⟩ := hlk.cells
      have HLK := Lib.hid hlk
      clear g0 g1 hlk
      by_cases hz : badTo l acts m bs k = 0
      · have HE := Lib.hid (hnext hz)
        have q1 : (badTo l acts m bs k == 0) = true := by simp [hz]
        clear hkeep hnext hz
        go_wp2_with (fail)
        refine (refLabel_calls l xk _ _ wo (HV.out wo HBW.out) HLK.out).mono ?_
        rintro e w4 ⟨rfl, hb4⟩
        have HB4 := Lib.hid (HBR.out.trans (hb4.mono HBR.out.size))
        clear hb4
        go_wp2
        go_roundw
        case rel => exact ⟨k + 1, _, by omega, by go_num, by rw [HE.out], rfl, HB4⟩
        case measure => simp [intOf]; omega
      · have HE := Lib.hid (hkeep hz)
        have q1 : (badTo l acts m bs k == 0) = false := by simpa using hz
        clear hkeep hnext hz
        go_wp2
        go_roundw
        case rel => exact ⟨k + 1, _, by omega, by go_num, by rw [HE.out], rfl, HBR⟩
        case measure => simp [intOf]; omega
    · obtain rfl : k = m.length := by omega
      have hbe := badTo_all l acts m bs
      have HY3 := Lib.hid (HY2.out.stays (keeps_of_below HBR.out))
      by_cases he : brokenE l acts m bs = 0
      · have hse : solveE l acts m.length bs = 0 := by
          apply Decidable.byContradiction
          intro h
          unfold brokenE at he
          rw [if_pos h] at he
          exact h he
        have hle : labsErr l acts m = 0 := by
          unfold brokenE at he
          rw [if_neg (by omega)] at he
          exact he
        obtain ⟨hc, _, _, hn2, hB⟩ := solveE_zero hse
        have hR : brokenR l acts m bs = brokenTo (mayB l acts) m bs bs.length := by unfold brokenR; rw [if_pos he]
        have HRB : Hid (∀ W, Below w.heap.size w W → Calls Tryz.prog 28 #[.slice p1 acts.length c1, .slice p3 m.length c3, .slice p2 bs.length c2] W fun e w' => ∃ y, e = .returned y ∧ Nums w' (brokenR l acts m bs) y ∧ Below W.heap.size W w') := fun W h => by
          rw [hR]
          exact refBroken_calls l acts m bs _ _ _ W (HU.out W h) (HM.out W h) (HS.out W h) hc (rightM_of hle) (fun x hx => (labErr_zero (labE_check (labsErr_zero.1 hle x hx)).2).1) hB hn2
        rw [he] at hbe
        have hbe0 := hbe
        have he0 := he
        clear he hse hle hc hn2 hB hR hbe
        rw [hbe0, he0]
        go_wp2_with (fail)
        refine (solved_calls _).mono ?_
        rintro e w5 ⟨rfl, hb5⟩
        have HB5 := Lib.hid (HBW.out.trans (hb5.mono HBW.out.size))
        have HY5 := Lib.hid (HY3.out.stays (keeps_of_below hb5))
        clear hb5
        go_wp2_with (fail)
        refine (HRB.out w5 HB5.out).mono ?_
        rintro e w6 ⟨z, rfl, hz, hb6⟩
        obtain ⟨_, _, cz, pz, rfl, _⟩ := hz.cells
        have HZ := Lib.hid hz
        have HY6 := Lib.hid (HY5.out.stays (keeps_of_below hb6))
        have HB6 := Lib.hid (HB5.out.trans (hb6.mono HB5.out.size))
        clear hz hb6
        go_wp2_with (fail)
        refine (equalI_calls _ _ _ _ _ HY6.out HZ.out).mono ?_
        rintro e w7 ⟨rfl, n7, rfl⟩
        have e7 : (brokenR l acts m bs == brokenR l acts m bs) = true := by rw [beq_iff_eq]
        rw [e7]
        have HB7 : Hid (Below w.heap.size w (w6.drewN n7)) := below_drewN HB6.out n7
        clear e7
        go_wp2
        go_ret
        exact ⟨rfl, HB7.out⟩
      · have HR : Hid (brokenR l acts m bs = []) := by unfold Hid brokenR; rw [if_neg he]
        have q3 : (brokenR l acts m bs).length = 0 := by rw [HR.out]; rfl
        have q1 : (brokenE l acts m bs != 0) = true := by simpa using he
        have q2 : (brokenE l acts m bs == 0) = false := by simpa using he
        clear he
        rw [hbe]
        go_wp2_with (fail)
        refine (solved_calls _).mono ?_
        rintro e w5 ⟨rfl, hb5⟩
        have HB5 := Lib.hid (HBW.out.trans (hb5.mono HBW.out.size))
        clear hb5
        go_wp2_with (fail)
        refine (solved_calls _).mono ?_
        rintro e w6 ⟨rfl, hb6⟩
        have HB6 := Lib.hid (HB5.out.trans (hb6.mono HB5.out.size))
        clear hb6
        go_wp2
        go_ret
        exact ⟨rfl, HB6.out⟩
end Go.Proofs.YtcgihpfanfbonaaGreatDoor
