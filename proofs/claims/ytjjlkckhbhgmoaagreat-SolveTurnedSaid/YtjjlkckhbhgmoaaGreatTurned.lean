/-
  cloisterlaw.SolveTurned: the call returns true.
-/
import Derived.Test.YtjjlkckhbhgmoaaGreatSolved
import Derived.Test.YtjjlkckhbhgmoaaGreatTurnedP
import Derived.Test.YtjjlkckhbhgmoaaGreatTurnC
import Derived.Deep.CutRange
import Derived.Deep.RegionWith
import Derived.Deep.RegionHeld3
namespace Go.Proofs.YtjjlkckhbhgmoaaGreat
open Go.RowKit Go.Maps
set_option linter.unusedVariables false
set_option linter.unusedSimpArgs false

def atI (k n : Int) : Int := if k.tmod n < 0 then k.tmod n + n else k.tmod n
theorem atI_range (k : Int) {n : Nat} (h0 : 0 < n) : ∃ i : Nat, i < n ∧ atI k n = i := by
  have h1 := Int.tmod_lt_of_pos k (b := (n : Int)) (by omega)
  have h2 := Int.lt_tmod_of_pos k (b := (n : Int)) (by omega)
  unfold atI
  split
  · exact ⟨(k.tmod n + n).toNat, by omega, by omega⟩
  · exact ⟨(k.tmod n).toNat, by omega, by omega⟩
theorem ret_intT {a b : Int} (h : a = b) : (Ending.returned (.int .i64 a)) = .returned (.int .i64 b) := by rw [h]
theorem at_calls (k : Int) (n : Nat) (w : World) (h0 : 0 < n) (hn : n ≤ 1048576) (hk : okNum k) :
    Calls Tryz.prog 8 #[.int .i64 k, .int .i64 n] w fun e w' => e = .returned (.int .i64 (atI k n)) ∧ w = w' := by
  unfold okNum at hk
  have h1 := Int.tmod_lt_of_pos k (b := (n : Int)) (by omega)
  have h2 := Int.lt_tmod_of_pos k (b := (n : Int)) (by omega)
  have HA : Hid (∀ m, k.tmod n = m → atI k n = if m < 0 then m + n else m) := fun m h => by subst h; rfl
  by_cases h : k.tmod n < 0
  · go_enter Tryz.func8, Tryz.ntmps8
    go_wp2
    go_ret
    exact ⟨ret_intT (by rw [HA.out _ rfl, if_pos h]), rfl⟩
  · go_enter Tryz.func8, Tryz.ntmps8
    go_wp2
    go_ret
    exact ⟨ret_intT (by rw [HA.out _ rfl, if_neg (by omega)]), rfl⟩

theorem turnF_calls (l : List Txt) (acts : List (Txt × Txt)) (x y : Lab) (v u vx vy : Value) (g1 g2 : Nat) (w : World) (hv : Strs w l v) (hu : Prs w acts u) (hx : Lbl w x vx) (hy : Lbl w y vy) (hl : okList okTxt l) (hxo : okLab x) (hyo : okLab y)
    (h1 : w.cell? ⟨g1, 0, none⟩ = some v) (h2 : w.cell? ⟨g2, 0, none⟩ = some u) :
    Calls Tryz.prog 9 #[vx, vy, .pointer (some ⟨g1, 0, none⟩), .pointer (some ⟨g2, 0, none⟩)] w fun e w' => e = .returned (.bool (flowsR l acts x y)) ∧ Below w.heap.size w w' := by
  obtain ⟨b0, o0, c0, p0, rfl, _⟩ := hv.cells
  obtain ⟨b1, o1, c1, p1, rfl, _⟩ := hu.cells
  obtain ⟨b2, o2, c2, p2, rfl, _⟩ := hx.cells
  obtain ⟨b3, o3, c3, p3, rfl, _⟩ := hy.cells
  by_cases he : flowsE l acts x y = 0
  · go_enter Tryz.func9, Tryz.ntmps9
    go_wp2_with (fail)
    refine (flows_calls l acts x y _ _ _ _ _ hv hu hx hy hl hxo hyo).mono ?_
    rintro e w1 ⟨rfl, hb⟩
    rw [he]
    go_wp2
    go_ret
    exact ⟨rfl, hb⟩
  · have hR : flowsR l acts x y = false := by unfold flowsR; simp [he]
    have hq : (flowsE l acts x y != 0) = true := by simpa using he
    have hq2 : (flowsE l acts x y == 0) = false := by simpa using he
    rw [hR]
    clear he
    go_enter Tryz.func9, Tryz.ntmps9
    go_wp2_with (fail)
    refine (flows_calls l acts x y _ _ _ _ _ hv hu hx hy hl hxo hyo).mono ?_
    rintro e w1 ⟨rfl, hb⟩
    go_wp2
    go_ret
    exact ⟨rfl, hb⟩

set_option maxHeartbeats 4000000 in
set_option maxRecDepth 100000 in
theorem solveTurned_calls (l : List Txt) (acts : List (Txt × Txt)) (n : Int) (bs : List Bnd) (k : Int) (v u s : Value) (w : World) (hv : Strs w l v) (hu : Prs w acts u) (hs : Bnds w bs s) (hl : okList okTxt l) (ho : okList okBnd bs) (hn : okNum n) (hk : okNum k) :
    Calls Tryz.prog 3 #[v, u, .int .i64 n, s, .int .i64 k] w fun e w' => e = .returned (.bool true) ∧ Below w.heap.size w w' := by
  have hs0 := hs
  obtain ⟨b0, o0, c0, p0, rfl, _⟩ := hv.cells
  obtain ⟨b1, o1, c1, p1, rfl, _⟩ := hu.cells
  obtain ⟨b2, o2, c2, p2, rfl, hlc2, hcm2, _⟩ := hs.cells
  obtain ⟨W1, eW⟩ : ∃ W1, (w.alloc (.cells #[.slice p0 l.length c0] 22)).alloc (.cells #[.slice p1 acts.length c1] 23) = W1 := ⟨_, rfl⟩
  obtain ⟨z2, hW, m1, m2⟩ := boxes2 eW
  have h10 := m1 0
  have h20 := m2 0
  simp only [List.getElem?_toArray, List.getElem?_cons_zero] at h10 h20
  have H10 := Lib.hid h10
  have H20 := Lib.hid h20
  have HV := Lib.hid (hv.stays (keeps_of_below hW))
  have HU := Lib.hid (hu.stays (keeps_of_below hW))
  have HS := Lib.hid (hs.stays (keeps_of_below hW))
  have KEEP : Hid (∀ W, Below W1.heap.size W1 W → Below w.heap.size w W) := fun W h => hW.trans (h.mono hW.size)
  have HLC : Hid (∀ W bs' s', Below W1.heap.size W1 W → Bnds W bs' s' → okList okBnd bs' → Calls Tryz.prog 4 #[.slice p0 l.length c0, .slice p1 acts.length c1, .int .i64 n, s'] W fun e w' => ∃ y m, e = .returned (.tuple #[y, .int .i64 (solveE l acts n bs')]) ∧ Labs w' m y ∧ (∀ x ∈ m, okLab x) ∧ (solveE l acts n bs' ≠ 0 → m = []) ∧ (solveE l acts n bs' = 0 → SolvedM l acts n.toNat bs' m) ∧ Below W.heap.size W w') :=
    fun W bs' s' h hb hok => least_calls l acts n bs' _ _ s' W (HV.out.stays (keeps_of_below h)) (HU.out.stays (keeps_of_below h)) hb hl hok
  have HOB := Lib.hid ho
  have HK := Lib.hid hk
  clear m1 m2 z2 hW hv hu hs hs0 ho hk
  by_cases he : solveE l acts n bs = 0
  · have HE := Lib.hid he
    have hb4 : bs.length ≤ 400 := (solveE_zero he).2.2.2.1
    have HTF : Hid (∀ x y vx vy W, Below W1.heap.size W1 W → Lbl W x vx → Lbl W y vy → okLab x → okLab y → Calls Tryz.prog 9 #[vx, vy, .pointer (some ⟨w.heap.size, 0, none⟩), .pointer (some ⟨w.heap.size + 1, 0, none⟩)] W fun e w' => e = .returned (.bool (flowsR l acts x y)) ∧ Below W.heap.size W w') :=
      fun x y vx vy W h hx hy hxo hyo => turnF_calls l acts x y _ _ vx vy w.heap.size (w.heap.size + 1) W (HV.out.stays (keeps_of_below h)) (HU.out.stays (keeps_of_below h)) hx hy hl hxo hyo ((h.cell (cell_lt H10.out)).trans H10.out) ((h.cell (cell_lt H20.out)).trans H20.out)
    have HEG := Lib.hid (enters_at Tryz.func9 (by kernel_rfl) rfl)
    clear he hl
    go_enter Tryz.func3, Tryz.ntmps3
    go_wp2_with (fail)
    refine (HLC.out W1 bs _ (Below.refl _ _) HS.out HOB.out).mono ?_
    rintro e w2 ⟨ya, a, rfl, hya, hoka, _, hsol, hb2⟩
    rw [HE.out]
    have HLA : Hid (LeastM l acts n.toNat bs a) := (hsol HE.out).least
    obtain ⟨ba, oa, ca, pa, rfl, _, _, hpa, hca⟩ := hya.cells
    have HPA := Lib.hid hpa
    have HCA := Lib.hid hca
    have HKA := Lib.hid hoka
    have HB2 := Lib.hid hb2
    clear hya hpa hca hoka hsol hb2
    go_wp2_with (fail)
    refine (solved_calls _).mono ?_
    rintro e w3 ⟨rfl, hb3⟩
    have HB3 := Lib.hid (HB2.out.trans (hb3.mono HB2.out.size))
    have HA3 : Hid (Below w2.heap.size w2 w3) := hb3
    clear hb3
    go_wp2_with (fail)
    refine (cloneB_calls bs _ _ (HS.out.stays (keeps_of_below HB3.out)) (by omega)).mono ?_
    rintro e w4 ⟨vm, d, rfl, hd1, hd2, hown, hb4'⟩
    have hdl : d.length = bs.length := by rw [← hd1, List.length_map]
    have HB4 := Lib.hid (HB3.out.trans (hb4'.mono HB3.out.size))
    have HW4 := Lib.hid hb4'
    have HD2 := Lib.hid hd2
    have HD1 := Lib.hid hd1
    have HOWN := Lib.hid hown
    clear hb4' hd2 hd1 hown
    go_wp2_with (fail)
    refine (revB_calls w3.heap.size vm d _ (fun y hy => bnd_len (HD2.out y hy)) HOWN.out (by omega)).mono ?_
    rintro e w5 ⟨rfl, hrow, hgrow⟩
    have hb35 : Below w3.heap.size w3 w5 := HW4.out.grown hgrow HW4.out.size (fun q hq => (HOWN.out.lt q hq).1)
    have HB5 := Lib.hid (HB3.out.trans (hb35.mono HB3.out.size))
    have HA5 := Lib.hid (HA3.out.trans (hb35.mono HA3.out.size))
    have hbm : Bnds w5 bs.reverse vm := by
      have h := bnds_of_row (d := d.reverse) (fun y hy => HD2.out y (List.mem_reverse.1 hy)) hb35 (by rw [List.length_reverse]; exact hrow)
      rw [List.map_reverse, HD1.out] at h
      exact h
    have her : solveE l acts n bs.reverse = 0 := solveE_sub HE.out (fun b hb => List.mem_reverse.1 hb) (by simp)
    have HER := Lib.hid her
    have HBM := Lib.hid hbm
    have HOR : Hid (okList okBnd bs.reverse) := fun b hb => HOB.out b (List.mem_reverse.1 hb)
    clear hrow hgrow hb35 hbm her
    have g5 : w5.cell? ⟨w.heap.size, 0, none⟩ = some (.slice p0 l.length c0) := (HB5.out.cell (cell_lt H10.out)).trans H10.out
    have g6 : w5.cell? ⟨w.heap.size + 1, 0, none⟩ = some (.slice p1 acts.length c1) := (HB5.out.cell (cell_lt H20.out)).trans H20.out
    clear h10 h20
    go_wp2_with (fail)
    refine (HLC.out w5 bs.reverse _ HB5.out HBM.out HOR.out).mono ?_
    rintro e w6 ⟨yb, m, rfl, hyb, hokb, _, hsolb, hb6⟩
    rw [HER.out]
    have HLB : Hid (LeastM l acts n.toNat bs.reverse m) := (hsolb HER.out).least
    have hlb : m.length = a.length := by rw [HLB.out.right.len, HLA.out.right.len]
    obtain ⟨bb, ob, cb, pb, rfl, _, _, hpb, hcb⟩ := hyb.cells
    have HPB := Lib.hid hpb
    have HCB := Lib.hid hcb
    have HKB := Lib.hid hokb
    have HA6 := Lib.hid (HA5.out.trans (hb6.mono HA5.out.size))
    have HB6 := Lib.hid (HB5.out.trans (hb6.mono HB5.out.size))
    have HS6 := Lib.hid hb6
    clear hyb hpb hcb hokb hsolb
    have g5' : w6.cell? ⟨w.heap.size, 0, none⟩ = some (.slice p0 l.length c0) := (hb6.cell (cell_lt g5)).trans g5
    have g6' : w6.cell? ⟨w.heap.size + 1, 0, none⟩ = some (.slice p1 acts.length c1) := (hb6.cell (cell_lt g6)).trans g6
    clear hb6 g5 g6
    obtain ⟨j, hj, hat⟩ := atI_range k (n := bs.length + 1) (by omega)
    have HAT : Hid (∀ W, Calls Tryz.prog 8 #[.int .i64 k, .int .i64 ((bs.length : Int) + 1)] W fun e w' => e = .returned (.int .i64 j) ∧ W = w') := fun W => by
      have h := at_calls k (bs.length + 1) W (by omega) (by omega) HK.out
      rw [hat] at h
      exact_mod_cast h
    have hsum : IntKind.i64.wrap ((bs.length : Int) + 1) = (bs.length : Int) + 1 := by simp [IntKind.wrap, IntKind.bits, IntKind.signed]; omega
    have HSUB : Hid (∀ b ∈ bs.take j, b ∈ bs) := fun b hb => List.mem_of_mem_take hb
    have HEC : Hid (solveE l acts n (bs.take j) = 0) := solveE_sub HE.out HSUB.out (by simp; omega)
    have HLEN : Hid ((bs.take j).length = j) := by unfold Hid; simp; omega
    have HOC : Hid (okList okBnd (bs.take j)) := fun b hb => HOB.out b (HSUB.out b hb)
    have HPC : Hid (∀ W, Below w6.heap.size w6 W → Calls Tryz.prog 4 #[.slice p0 l.length c0, .slice p1 acts.length c1, .int .i64 n, .slice p2 j c2] W fun e w' => ∃ pc b o c mc, e = .returned (.tuple #[.slice pc a.length c, .int .i64 0]) ∧ mc.length = a.length ∧ (0 < mc.length → pc = some ⟨b, o, none⟩) ∧ (∀ (i : Nat) (h : i < mc.length), ∃ u, w'.cell? ⟨b, o + i, none⟩ = some u ∧ Lbl w' mc[i] u) ∧ (∀ x ∈ mc, okLab x) ∧ LeastM l acts n.toNat (bs.take j) mc ∧ Below w6.heap.size w6 w') := fun W h => by
      have h1 : Below W1.heap.size W1 W := HB6.out.trans (h.mono HB6.out.size)
      have hsl : Bnds W (bs.take j) (.slice p2 j c2) := SliceOf.take (HS.out.stays (keeps_of_below h1)) j (by omega)
      refine (HLC.out W (bs.take j) _ h1 hsl HOC.out).mono ?_
      rintro e w' ⟨yc, mc, rfl, hyc, hokc, _, hsolc, hbc⟩
      rw [HEC.out]
      have hlc := (hsolc HEC.out).least
      have hcl : mc.length = a.length := by rw [hlc.right.len, HLA.out.right.len]
      obtain ⟨bc, oc, cc, pc, rfl, _, _, hpc, hcc⟩ := hyc.cells
      exact ⟨pc, bc, oc, cc, mc, by rw [hcl], hcl, hpc, hcc, hokc, hlc, h.trans (hbc.mono h.size)⟩
    have hjl : (j : Int) ≤ (bs.length : Int) := by omega
    have hjc : (j : Int) ≤ (c2 : Int) := by omega
    have HLENB := Lib.hid hlb
    rw [hlb]
    clear hat hj hlb
    go_upto_region 7 with fail
    go_cut [15, 16] from 46 to 59 (fun x15 x16 wx => ∃ (pc : Option Addr) (bc oc cc : Nat) (mc : List Lab), x15 = .slice pc a.length cc ∧ x16 = .int .i64 0 ∧ Hid (mc.length = a.length ∧ (0 < mc.length → pc = some ⟨bc, oc, none⟩) ∧ (∀ (i : Nat) (h : i < mc.length), ∃ u, wx.cell? ⟨bc, oc + i, none⟩ = some u ∧ Lbl wx mc[i] u) ∧ (∀ x ∈ mc, okLab x) ∧ LeastM l acts n.toNat (bs.take j) mc ∧ Below w6.heap.size w6 wx))
    case first =>
      go_region_with (first
        | (go_at_call 8; refine (HAT.out _).mono ?_; rintro e w' ⟨rfl, rfl⟩)
        | (go_at_call 4; refine (HPC.out _ ?_).mono ?_; (first | exact Below.refl _ _ | exact (Below.refl _ _).drew | exact (Below.refl _ _).drew.drew); rintro e w7 ⟨pc, bc, oc, cc, mc, rfl, hcl, hpc, hcc, hokc, hlc, hb7⟩))
      all_goals (go_wp2_with fail; go_meet; exact ⟨pc, bc, oc, cc, mc, rfl, rfl, hcl, hpc, hcc, hokc, hlc, hb7⟩)
    case rest =>
      obtain ⟨pc, bc, oc, cc, mc, rfl, rfl, HC7⟩ := hcut
      obtain ⟨hcl, hpc, hcc, hokc, hlc, hb7⟩ := HC7.out
      have HLENC := Lib.hid hcl
      have HPD := Lib.hid hpc
      have HCD := Lib.hid hcc
      have HKD := Lib.hid hokc
      have HLD := Lib.hid hlc
      have HB7 := Lib.hid hb7
      clear hcl hpc hcc hokc hlc hb7 HC7 g5' g6' hjl hjc hsum
      have egF := HEG.out
      go_wp2
      go_loopw [83] (fun i ws => ∃ (q : Nat) (wo : World), q ≤ a.length ∧ i = .int .i64 q ∧ wo = ws ∧ Hid (Below wc.heap.size wc wo)) (fun i _ => a.length - (intOf i).toNat)
      case atStart => exact ⟨0, _, Nat.zero_le _, rfl, rfl, Below.refl _ _⟩
      case round =>
        obtain ⟨q, wo, hq, rfl, rfl, HBR⟩ := hrel
        have h6 : Below w6.heap.size w6 wo := HB7.out.trans (HBR.out.mono HB7.out.size)
        have h1 : Below W1.heap.size W1 wo := HB6.out.trans (h6.mono HB6.out.size)
        by_cases hlt : q < a.length
        · have hltb : q < m.length := by rw [HLENB.out]; exact hlt
          have hltc : q < mc.length := by rw [HLENC.out]; exact hlt
          obtain ⟨ua, ga0, hua0⟩ := HCA.out q hlt
          obtain ⟨ub, gb0, hub0⟩ := HCB.out q hltb
          obtain ⟨uc, gc0, huc0⟩ := HCD.out q hltc
          obtain rfl := HPA.out (by omega)
          obtain rfl := HPB.out (by omega)
          obtain rfl := HPD.out (by omega)
          have h2 : Below w2.heap.size w2 wo := HA6.out.trans (h6.mono HA6.out.size)
          have ga : wo.cell? ⟨ba, oa + q, none⟩ = some ua := (h2.cell (cell_lt ga0)).trans ga0
          have gb : wo.cell? ⟨bb, ob + q, none⟩ = some ub := (h6.cell (cell_lt gb0)).trans gb0
          have gc : wo.cell? ⟨bc, oc + q, none⟩ = some uc := (HBR.out.cell (cell_lt gc0)).trans gc0
          have hua := hua0.stays (keeps_of_below h2)
          have hub := hub0.stays (keeps_of_below h6)
          have huc := huc0.stays (keeps_of_below HBR.out)
          obtain ⟨b7, o7, c7, p7, rfl, _⟩ := hua.cells
          obtain ⟨b8, o8, c8, p8, rfl, _⟩ := hub.cells
          obtain ⟨b9, o9, c9, p9, rfl, _⟩ := huc.cells
          have hql : (q : Int) < (a.length : Int) := by omega
          have L1 : flowsR l acts a[q] m[q] = true := turned_le HER.out HLB.out HLA.out (fun b hb => List.mem_reverse.2 hb) q hlt hltb
          have L2 : flowsR l acts m[q] a[q] = true := turned_le HE.out HLA.out HLB.out (fun b hb => List.mem_reverse.1 hb) q hltb hlt
          have L3 : flowsR l acts mc[q] a[q] = true := turned_le HE.out HLA.out HLD.out HSUB.out q hltc hlt
          have HF : Hid (∀ vx vy W, Below wo.heap.size wo W → ((vx = .slice p7 a[q].length c7 ∧ vy = .slice p8 m[q].length c8) ∨ (vx = .slice p8 m[q].length c8 ∧ vy = .slice p7 a[q].length c7) ∨ (vx = .slice p9 mc[q].length c9 ∧ vy = .slice p7 a[q].length c7)) →
              Calls Tryz.prog 9 #[vx, vy, .pointer (some ⟨w.heap.size, 0, none⟩), .pointer (some ⟨w.heap.size + 1, 0, none⟩)] W fun e w' => e = .returned (.bool true) ∧ Below wo.heap.size wo w') := by
            intro vx vy W hW h
            have hW1 := h1.trans (hW.mono h1.size)
            rcases h with ⟨rfl, rfl⟩ | ⟨rfl, rfl⟩ | ⟨rfl, rfl⟩
            · refine (HTF.out a[q] m[q] _ _ W hW1 (hua.stays (keeps_of_below hW)) (hub.stays (keeps_of_below hW)) (HKA.out _ (List.getElem_mem hlt)) (HKB.out _ (List.getElem_mem hltb))).mono ?_
              rintro e w' ⟨rfl, hb⟩
              exact ⟨by rw [L1], hW.trans (hb.mono hW.size)⟩
            · refine (HTF.out m[q] a[q] _ _ W hW1 (hub.stays (keeps_of_below hW)) (hua.stays (keeps_of_below hW)) (HKB.out _ (List.getElem_mem hltb)) (HKA.out _ (List.getElem_mem hlt))).mono ?_
              rintro e w' ⟨rfl, hb⟩
              exact ⟨by rw [L2], hW.trans (hb.mono hW.size)⟩
            · refine (HTF.out mc[q] a[q] _ _ W hW1 (huc.stays (keeps_of_below hW)) (hua.stays (keeps_of_below hW)) (HKD.out _ (List.getElem_mem hltc)) (HKA.out _ (List.getElem_mem hlt))).mono ?_
              rintro e w' ⟨rfl, hb⟩
              exact ⟨by rw [L3], hW.trans (hb.mono hW.size)⟩
          have HC3 : Hid (∀ W, Below wo.heap.size wo W → W.cell? ⟨ba, oa + q, none⟩ = some (.slice p7 a[q].length c7) ∧ W.cell? ⟨bb, ob + q, none⟩ = some (.slice p8 m[q].length c8) ∧ W.cell? ⟨bc, oc + q, none⟩ = some (.slice p9 mc[q].length c9)) :=
            fun W h => ⟨(h.cell (cell_lt ga)).trans ga, (h.cell (cell_lt gb)).trans gb, (h.cell (cell_lt gc)).trans gc⟩
          clear ga0 gb0 gc0 hua0 hub0 huc0 hua hub huc h1 h2 h6 L1 L2 L3
          have egG := HEG.out
          go_wp2
          go_region_held3 (fun w' => w'.cell? ⟨ba, oa + q, none⟩ = some (.slice p7 a[q].length c7) ∧ w'.cell? ⟨bb, ob + q, none⟩ = some (.slice p8 m[q].length c8) ∧ w'.cell? ⟨bc, oc + q, none⟩ = some (.slice p9 mc[q].length c9))
            (first | exact HC3.out _ (Below.refl _ _) | exact HC3.out _ (Below.refl _ _).drew | exact HC3.out _ (by assumption))
            (first
              | (go_at_call 9
                 refine (HF.out _ _ _ ?_ ?_).mono ?_
                 · first | exact (Below.refl _ _).drew | assumption | exact Below.drew (by assumption)
                 · first | exact .inl ⟨rfl, rfl⟩ | exact .inr (.inl ⟨rfl, rfl⟩) | exact .inr (.inr ⟨rfl, rfl⟩)
                 rintro e w8 ⟨rfl, hb8⟩))
          all_goals (try go_wp2)
          all_goals go_roundw
          all_goals first
            | exact ⟨q + 1, _, by omega, by go_num, rfl, HBR.out.trans (hb8.mono HBR.out.size)⟩
            | (simp [intOf]; omega)
        · obtain rfl : q = a.length := by omega
          have HEND := Lib.hid (KEEP.out _ h1)
          clear h1 h6
          go_wp2
          go_ret
          exact ⟨rfl, HEND.out⟩
  · have hq : (solveE l acts n bs != 0) = true := by simpa using he
    have hq2 : (solveE l acts n bs == 0) = false := by simpa using he
    clear he
    go_enter Tryz.func3, Tryz.ntmps3
    go_wp2_with (fail)
    refine (HLC.out W1 bs _ (Below.refl _ _) HS.out HOB.out).mono ?_
    rintro e w2 ⟨y, m, rfl, hy, _, _, _, hb2⟩
    obtain ⟨by_, oy, cy, py, rfl, _⟩ := hy.cells
    have HB2 := Lib.hid hb2
    clear hy hb2
    go_wp2_with (fail)
    refine (solved_calls _).mono ?_
    rintro e w3 ⟨rfl, hb3⟩
    have HB3 := Lib.hid (HB2.out.trans (hb3.mono HB2.out.size))
    clear hb3
    go_wp2_with (fail)
    refine (solved_calls _).mono ?_
    rintro e w4 ⟨rfl, hb4⟩
    have HB4 := Lib.hid (KEEP.out _ (HB3.out.trans (hb4.mono HB3.out.size)))
    clear hb4
    go_wp2
    go_ret
    exact ⟨rfl, HB4.out⟩
end Go.Proofs.YtjjlkckhbhgmoaaGreat
