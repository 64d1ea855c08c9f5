/-
  cloisterlaw.SolveHolds: the call returns true.
-/
import Derived.Test.YtjjlkckhbhgmoaaSolved
namespace Go.Proofs.Ytjjlkckhbhgmoaa
open Go.RowKit Go.Maps
set_option linter.unusedVariables false
set_option linter.unusedSimpArgs false

theorem holdsA_calls (bs : List Bnd) (i : Int) (v : Value) (g : Nat) (w : World) (hv : Bnds w bs v) (h : w.cell? ⟨g, 0, none⟩ = some v) (hi : ∃ k : Nat, i = k ∧ k < bs.length) :
    Calls Try.prog 17 #[.int .i64 i, .pointer (some ⟨g, 0, none⟩)] w fun e w' => e = .returned (.bool (toAt bs i)) ∧ Below w.heap.size w w' := by
  obtain ⟨k, rfl, hk⟩ := hi
  obtain ⟨b, o, c, p, rfl, hlc, hcm, hp, hcells⟩ := hv.cells
  obtain ⟨x0, x1, x2, x3, x4, x5, his, e0, e1, e2, _⟩ := hcells k hk
  obtain rfl := hp (by omega)
  have hto := his.to
  subst hto
  have hk' : (k : Int) < (bs.length : Int) := by omega
  by_cases h0 : 0 ≤ bTo bs[k]
  · have hx : toAt bs (k : Int) = true := by unfold toAt; simp [hk, h0]
    rw [hx]
    clear hx his hcells e0 e1 hv hp
    go_enter Try.func17, Try.ntmps17
    go_wp2
    go_ret
    exact ⟨rfl, Below.refl _ _⟩
  · have hx : toAt bs (k : Int) = false := by unfold toAt; simp [hk]; omega
    rw [hx]
    clear hx his hcells e0 e1 hv hp
    go_enter Try.func17, Try.ntmps17
    go_wp2
    go_ret
    exact ⟨rfl, Below.refl _ _⟩

theorem holdsB_calls (bs : List Bnd) (i : Int) (v : Value) (g : Nat) (w : World) (hv : Bnds w bs v) (h : w.cell? ⟨g, 0, none⟩ = some v) (hi : ∃ k : Nat, i = k ∧ k < bs.length) :
    Calls Try.prog 18 #[.int .i64 i, .pointer (some ⟨g, 0, none⟩)] w fun e w' => e = .returned (.bool (toAt bs i)) ∧ Below w.heap.size w w' := by
  obtain ⟨k, rfl, hk⟩ := hi
  obtain ⟨b, o, c, p, rfl, hlc, hcm, hp, hcells⟩ := hv.cells
  obtain ⟨x0, x1, x2, x3, x4, x5, his, e0, e1, e2, _⟩ := hcells k hk
  obtain rfl := hp (by omega)
  have hto := his.to
  subst hto
  have hk' : (k : Int) < (bs.length : Int) := by omega
  by_cases h0 : 0 ≤ bTo bs[k]
  · have hx : toAt bs (k : Int) = true := by unfold toAt; simp [hk, h0]
    rw [hx]
    clear hx his hcells e0 e1 hv hp
    go_enter Try.func18, Try.ntmps18
    go_wp2
    go_ret
    exact ⟨rfl, Below.refl _ _⟩
  · have hx : toAt bs (k : Int) = false := by unfold toAt; simp [hk]; omega
    rw [hx]
    clear hx his hcells e0 e1 hv hp
    go_enter Try.func18, Try.ntmps18
    go_wp2
    go_ret
    exact ⟨rfl, Below.refl _ _⟩

theorem brokenR_mem {l : List Txt} {acts : List (Txt × Txt)} {m : List Lab} {bs : List Bnd} {i : Int} (h : i ∈ brokenR l acts m bs) : ∃ k : Nat, i = k ∧ k < bs.length := by
  unfold brokenR at h
  split at h
  · obtain ⟨k, e, hk, _⟩ := mem_broken h
    exact ⟨k, e, hk⟩
  · cases h

set_option maxHeartbeats 4000000 in
set_option maxRecDepth 100000 in
theorem solveHolds_calls (l : List Txt) (acts : List (Txt × Txt)) (bs : List Bnd) (hv_ : List Lab) (v u s t : Value) (w : World) (hv : Strs w l v) (hu : Prs w acts u) (hs : Bnds w bs s) (ht : Labs w hv_ t) (hl : okList okTxt l) (ho : okList okBnd bs) (hm : okList okLab hv_) :
    Calls Try.prog 5 #[v, u, s, t] w fun e w' => e = .returned (.bool true) ∧ Below w.heap.size w w' := by
  obtain ⟨b0, o0, c0, p0, rfl, _⟩ := hv.cells
  obtain ⟨b1, o1, c1, p1, rfl, _⟩ := hu.cells
  obtain ⟨b2, o2, c2, p2, rfl, _⟩ := hs.cells
  obtain ⟨b3, o3, c3, p3, rfl, hlc3, hcm3, hp3, hcells3⟩ := ht.cells
  obtain ⟨W1, eW⟩ : ∃ W1, w.alloc (.cells #[.slice p2 bs.length c2] 37) = W1 := ⟨_, rfl⟩
  obtain ⟨z1, hW, m1⟩ := boxes1 eW
  have j0 := m1 0
  simp only [List.getElem?_toArray, List.getElem?_cons_zero] at j0
  have J0 := Lib.hid j0
  have HW := Lib.hid hW
  have HV := Lib.hid (hv.stays (keeps_of_below hW))
  have HU := Lib.hid (hu.stays (keeps_of_below hW))
  have HS := Lib.hid (hs.stays (keeps_of_below hW))
  have HT := Lib.hid (ht.stays (keeps_of_below hW))
  have HCL : Hid (∀ (i : Nat) (h : i < hv_.length), ∃ u, W1.cell? ⟨b3, o3 + i, none⟩ = some u ∧ Lbl W1 hv_[i] u) := fun i h => by
    obtain ⟨u, h1, h2⟩ := hcells3 i h
    exact ⟨u, (hW.cell (cell_lt h1)).trans h1, h2.stays (keeps_of_below hW)⟩
  have HP3 := Lib.hid hp3
  have HOB := Lib.hid ho
  have HOM := Lib.hid hm
  have KEEP : Hid (∀ W, Below W1.heap.size W1 W → Below w.heap.size w W) := fun W h => HW.out.trans (h.mono HW.out.size)
  have HLC := Lib.hid (least_calls l acts hv_.length bs _ _ _ W1 HV.out HU.out HS.out hl ho)
  have HEA := Lib.hid (enters_at Try.func17 (by kernel_rfl) rfl)
  have HEB := Lib.hid (enters_at Try.func18 (by kernel_rfl) rfl)
  clear m1 z1 hW hv hu hs ht hcells3 hp3 ho hm
  by_cases he : solveE l acts hv_.length bs = 0
  · have HE := Lib.hid he
    clear he
    go_enter Try.func5, Try.ntmps5
    go_wp2_with (fail)
    refine HLC.out.mono ?_
    rintro e w2 ⟨y, m, rfl, hy, hokm, _, hsol, hb2⟩
    rw [HE.out]
    have HLM : Hid (LeastM l acts hv_.length bs m) := (hsol HE.out).least
    obtain ⟨by_, oy, cy, py, rfl, _, _, hpy, hcy⟩ := hy.cells
    have HY := Lib.hid hy
    have HPY := Lib.hid hpy
    have HCY := Lib.hid hcy
    have HKM := Lib.hid hokm
    have HB2 := Lib.hid hb2
    have HLEN : Hid (m.length = hv_.length) := HLM.out.right.len
    have HBC : Hid (∀ W, Below w2.heap.size w2 W → Calls Try.prog 15 #[.slice p0 l.length c0, .slice p1 acts.length c1, .slice py m.length cy, .slice p2 bs.length c2] W fun e w' => ∃ y, e = .returned (.tuple #[y, .int .i64 0]) ∧ Nums w' (brokenR l acts m bs) y ∧ Below W.heap.size W w') := fun W h => by
      have h' := HB2.out.trans (h.mono HB2.out.size)
      have hh := broken_calls l acts m bs _ _ _ _ W (HV.out.stays (keeps_of_below h')) (HU.out.stays (keeps_of_below h')) (HY.out.stays (keeps_of_below h)) (HS.out.stays (keeps_of_below h')) hl HKM.out HOB.out
      rw [(holds_law HE.out HLM.out).1] at hh
      exact hh
    have HNO : Hid (anyBy (brokenR l acts m bs) (toAt bs) = false) := (holds_law HE.out HLM.out).2.1
    have HHV : Hid (∀ W, Below w2.heap.size w2 W → Calls Try.prog 15 #[.slice p0 l.length c0, .slice p1 acts.length c1, .slice p3 hv_.length c3, .slice p2 bs.length c2] W fun e w' => ∃ y, e = .returned (.tuple #[y, .int .i64 (brokenE l acts hv_ bs)]) ∧ Nums w' (brokenR l acts hv_ bs) y ∧ Below W.heap.size W w') := fun W h => by
      have h' := HB2.out.trans (h.mono HB2.out.size)
      exact broken_calls l acts hv_ bs _ _ _ _ W (HV.out.stays (keeps_of_below h')) (HU.out.stays (keeps_of_below h')) (HT.out.stays (keeps_of_below h')) (HS.out.stays (keeps_of_below h')) hl HOM.out HOB.out
    have HTA : Hid (∀ W, Below w2.heap.size w2 W → TellsNum W (brokenR l acts m bs) 17 #[.pointer (some ⟨w.heap.size, 0, none⟩)] (toAt bs)) := fun W h x hx W' hb => by
      have h' := HB2.out.trans ((h.trans (hb.mono h.size)).mono HB2.out.size)
      exact holdsA_calls bs x _ w.heap.size W' (HS.out.stays (keeps_of_below h')) ((h'.cell (cell_lt J0.out)).trans J0.out) (brokenR_mem hx)
    have HTB : Hid (∀ W, Below w2.heap.size w2 W → TellsNum W (brokenR l acts hv_ bs) 18 #[.pointer (some ⟨w.heap.size, 0, none⟩)] (toAt bs)) := fun W h x hx W' hb => by
      have h' := HB2.out.trans ((h.trans (hb.mono h.size)).mono HB2.out.size)
      exact holdsB_calls bs x _ w.heap.size W' (HS.out.stays (keeps_of_below h')) ((h'.cell (cell_lt J0.out)).trans J0.out) (brokenR_mem hx)
    have j2 : w2.cell? ⟨w.heap.size, 0, none⟩ = some (.slice p2 bs.length c2) := (hb2.cell (cell_lt J0.out)).trans J0.out
    have J2 := Lib.hid j2
    have HB0 : Hid (Below w.heap.size w w2) := KEEP.out _ hb2
    clear hy hpy hcy hokm hsol hb2 j0
    go_wp2_with (fail)
    refine (solved_calls _).mono ?_
    rintro e w3 ⟨rfl, hb3⟩
    have HB3 := Lib.hid hb3
    have j3 : w3.cell? ⟨w.heap.size, 0, none⟩ = some (.slice p2 bs.length c2) := (hb3.cell (cell_lt J2.out)).trans J2.out
    clear hb3 j2
    go_wp2_with (fail)
    refine (HBC.out w3 HB3.out).mono ?_
    rintro e w4 ⟨x, rfl, hx, hb4⟩
    obtain ⟨bx, ox, cx, px, rfl, _⟩ := hx.cells
    have HX := Lib.hid hx
    have HB4 := Lib.hid (HB3.out.trans (hb4.mono HB3.out.size))
    clear hx hb4
    have egA := HEA.out
    go_wp2_with (fail)
    refine (containsInt_calls _ _ _ _ _ _ HX.out HEA.out (HTA.out _ HB4.out)).mono ?_
    rintro e w5 ⟨rfl, hb5⟩
    rw [HNO.out]
    have HB5 := Lib.hid (HB4.out.trans (hb5.mono HB4.out.size))
    have j5 : w5.cell? ⟨w.heap.size, 0, none⟩ = some (.slice p2 bs.length c2) := (HB5.out.cell (cell_lt J2.out)).trans J2.out
    clear hb5 egA j3
    by_cases hb : brokenE l acts hv_ bs = 0
    · have HHE := Lib.hid hb
      clear hb
      go_wp2_with (fail)
      refine (HHV.out w5 HB5.out).mono ?_
      rintro e w6 ⟨x2, rfl, hx2, hb6⟩
      rw [HHE.out]
      obtain ⟨bx2, ox2, cx2, px2, rfl, _⟩ := hx2.cells
      have HX2 := Lib.hid hx2
      have HB6 := Lib.hid (HB5.out.trans (hb6.mono HB5.out.size))
      clear hx2 hb6
      have egB := HEB.out
      have HCF := Lib.hid (containsInt_calls _ _ _ _ _ _ HX2.out HEB.out (HTB.out _ HB6.out))
      cases hany : anyBy (brokenR l acts hv_ bs) (toAt bs) with
      | true =>
        rw [hany] at HCF
        clear hany
        go_wp2_with (fail)
        refine HCF.out.mono ?_
        rintro e w7 ⟨rfl, hb7⟩
        have HB7 : Hid (Below w.heap.size w w7) := HB0.out.trans ((HB6.out.trans (hb7.mono HB6.out.size)).mono HB0.out.size)
        clear hb7
        go_wp2
        go_ret
        exact ⟨rfl, HB7.out⟩
      | false =>
        have HLAW := Lib.hid ((holds_law HE.out HLM.out).2.2 HHE.out hany)
        rw [hany] at HCF
        clear hany
        go_wp2_with (fail)
        refine HCF.out.mono ?_
        rintro e w7 ⟨rfl, hb7⟩
        have HB7 : Hid (Below w2.heap.size w2 w7) := HB6.out.trans (hb7.mono HB6.out.size)
        clear hb7 egB HCF j5
        go_wp2
        go_loopw [63] (fun i ws => ∃ (k : Nat) (wo : World), k ≤ hv_.length ∧ i = .int .i64 k ∧ wo = ws ∧ Hid (Below w2.heap.size w2 wo)) (fun i _ => hv_.length - (intOf i).toNat)
        case atStart => exact ⟨0, _, Nat.zero_le _, rfl, rfl, HB7.out⟩
        case round =>
          obtain ⟨k, wo, hk, rfl, rfl, HBR⟩ := hrel
          by_cases hlt : k < hv_.length
          · have hlen := HLEN.out
            have hkm : k < m.length := by omega
            obtain ⟨ux, gx0, hux0⟩ := HCY.out k hkm
            obtain rfl := HPY.out (by omega)
            obtain ⟨uz, gz0, huz0⟩ := HCL.out k hlt
            obtain rfl := HP3.out (by omega)
            have hb1 : Below W1.heap.size W1 wo := HB2.out.trans (HBR.out.mono HB2.out.size)
            have gx : wo.cell? ⟨by_, oy + k, none⟩ = some ux := (HBR.out.cell (cell_lt gx0)).trans gx0
            have gz : wo.cell? ⟨b3, o3 + k, none⟩ = some uz := (hb1.cell (cell_lt gz0)).trans gz0
            have hux := hux0.stays (keeps_of_below HBR.out)
            have huz := huz0.stays (keeps_of_below hb1)
            obtain ⟨b8, o8, c8, p8, rfl, _⟩ := hux.cells
            obtain ⟨b9, o9, c9, p9, rfl, _⟩ := huz.cells
            have hkl : (k : Int) < (m.length : Int) := by omega
            have hkl2 : (k : Int) < (hv_.length : Int) := by omega
            have HFL : Hid (∀ W, Below wo.heap.size wo W → Calls Try.prog 8 #[.slice p0 l.length c0, .slice p1 acts.length c1, .slice p8 m[k].length c8, .slice p9 hv_[k].length c9] W fun e w' => e = .returned (.tuple #[.bool true, .int .i64 0]) ∧ Below W.heap.size W w') := fun W h => by
              obtain ⟨f1, f2⟩ := HLAW.out k hlt hkm
              have h' := hb1.trans (h.mono hb1.size)
              have hh := flows_calls l acts m[k] hv_[k] _ _ _ _ W (HV.out.stays (keeps_of_below h')) (HU.out.stays (keeps_of_below h')) (hux.stays (keeps_of_below h)) (huz.stays (keeps_of_below h)) hl (HKM.out _ (List.getElem_mem hkm)) (HOM.out _ (List.getElem_mem hlt))
              rw [f1, f2] at hh
              exact hh
            clear gx0 gz0 hux0 huz0 hux huz hb1 hlen
            have hd : Below wo.heap.size wo wo.drew := (Below.refl _ _).drew
            go_wp2
            go_region_with (go_at_call 8; refine (HFL.out _ ?_).mono ?_; exact (Below.refl _ _).drew; rintro e w8 ⟨rfl, hb8⟩)
            all_goals (try go_wp2)
            all_goals go_roundw
            all_goals first
              | exact ⟨k + 1, _, by omega, by go_num, rfl, HBR.out.trans ((hd.trans (hb8.mono hd.size)).mono HBR.out.size)⟩
              | (simp [intOf]; omega)
          · obtain rfl : k = hv_.length := by omega
            have HEND : Hid (Below w.heap.size w wo) := HB0.out.trans (HBR.out.mono HB0.out.size)
            go_wp2
            go_ret
            exact ⟨rfl, HEND.out⟩
    · have hq : (brokenE l acts hv_ bs != 0) = true := by simpa using hb
      have hq2 : (brokenE l acts hv_ bs == 0) = false := by simpa using hb
      clear hb
      go_wp2_with (fail)
      refine (HHV.out w5 HB5.out).mono ?_
      rintro e w6 ⟨x2, rfl, hx2, hb6⟩
      obtain ⟨bx2, ox2, cx2, px2, rfl, _⟩ := hx2.cells
      have HB6 : Hid (Below w.heap.size w w6) := HB0.out.trans ((HB5.out.trans (hb6.mono HB5.out.size)).mono HB0.out.size)
      clear hx2 hb6
      go_wp2
      go_ret
      exact ⟨rfl, HB6.out⟩
  · have hq : (solveE l acts hv_.length bs != 0) = true := by simpa using he
    have hq2 : (solveE l acts hv_.length bs == 0) = false := by simpa using he
    clear he
    go_enter Try.func5, Try.ntmps5
    go_wp2_with (fail)
    refine HLC.out.mono ?_
    rintro e w2 ⟨y, m, rfl, hy, _, _, _, hb2⟩
    obtain ⟨by_, oy, cy, py, rfl, _⟩ := hy.cells
    have HB2 := Lib.hid hb2
    clear hy hb2
    go_wp2_with (fail)
    refine (solved_calls _).mono ?_
    rintro e w3 ⟨rfl, hb3⟩
    have HB3 := Lib.hid (HB2.out.trans (hb3.mono HB2.out.size))
    clear hb3
    go_wp2_with (fail)
    refine (solved_calls _).mono ?_
    rintro e w4 ⟨rfl, hb4⟩
    have HB4 := Lib.hid (KEEP.out _ (HB3.out.trans (hb4.mono HB3.out.size)))
    clear hb4
    go_wp2
    go_ret
    exact ⟨rfl, HB4.out⟩
end Go.Proofs.Ytjjlkckhbhgmoaa
