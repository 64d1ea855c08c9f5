/-
  cloisterlaw.SolveLeast: the call returns true.
-/
import Derived.Test.YtcgihpfanfbonaaGreatDoorSL00
import Derived.Test.YtcgihpfanfbonaaGreatDoorSB03
import Derived.Test.YtcgihpfanfbonaaGreatDoorLN22
namespace Go.Proofs.YtcgihpfanfbonaaGreatDoor
open Go.RowKit Go.Maps
set_option linter.unusedVariables false
set_option linter.unusedSimpArgs false

/-- Two labels as the statement wants them. -/
structure AlikeL (l : List Txt) (acts : List (Txt × Txt)) (a b : Lab) : Prop where
  right : RightL l a
  rightb : RightL l b
  few : a.length ≤ 200
  ab : flowsB (mayB l acts) a b = true
  ba : flowsB (mayB l acts) b a = true
  norm : normL (mayB l acts) a = a
set_option maxHeartbeats 2000000 in
set_option maxRecDepth 100000 in
theorem leastF_calls (l : List Txt) (acts : List (Txt × Txt)) (a b : Lab) (va vb v u : Value) (g0 g1 : Nat) (w : World) (h0 : w.cell? ⟨g0, 0, none⟩ = some v) (h1 : w.cell? ⟨g1, 0, none⟩ = some u) (hv : Strs w l v) (hu : Prs w acts u) (ha : Lbl w a va) (hb : Lbl w b vb)
    (hc : checkC l acts = 0) (hal : AlikeL l acts a b) :
    Calls Tryz.prog 23 (#[va, vb] ++ #[.pointer (some ⟨g0, 0, none⟩), .pointer (some ⟨g1, 0, none⟩)]) w fun e w' => e = .returned (.bool true) ∧ Below w.heap.size w w' := by
  have hv0 := hv
  have hu0 := hu
  have ha0 := ha
  have hb0 := hb
  obtain ⟨_, _, c0, p0, rfl, _⟩ := hv.cells
  obtain ⟨_, _, c1, p1, rfl, _⟩ := hu.cells
  obtain ⟨_, _, ca, pa, rfl, _⟩ := ha.cells
  obtain ⟨_, _, cb, pb, rfl, _⟩ := hb.cells
  have HC := Lib.hid hc
  have HAL := Lib.hid hal
  have HN10 : Hid (acts.length ≤ 10) := (checkC_zero hc).2.1
  have HLE : Hid (labErr l a = 0) := labErr_of hal.few hal.right
  have HAB : Hid (flowsB (actsF acts) a b = true) := by unfold Hid; rw [← flows_acts hc hal.right hal.rightb]; exact hal.ab
  have HBA : Hid (flowsB (actsF acts) b a = true) := by unfold Hid; rw [← flows_acts hc hal.rightb hal.right]; exact hal.ba
  have HK : Hid (∀ W, Below w.heap.size w W → Strs W l (.slice p0 l.length c0) ∧ Prs W acts (.slice p1 acts.length c1) ∧ Lbl W a (.slice pa a.length ca) ∧ Lbl W b (.slice pb b.length cb) ∧ W.cell? ⟨g0, 0, none⟩ = some (.slice p0 l.length c0) ∧ W.cell? ⟨g1, 0, none⟩ = some (.slice p1 acts.length c1)) := fun W h =>
    ⟨hv0.stays (keeps_of_below h), hu0.stays (keeps_of_below h), ha0.stays (keeps_of_below h), hb0.stays (keeps_of_below h), bkeptT h h0, bkeptT h h1⟩
  clear hv hu ha hb hv0 hu0 ha0 hb0 hc hal h1
  go_enter Tryz.func23, Tryz.ntmps23
  go_wp2_with (fail)
  refine (refLabel_calls l a _ _ w (HK.out w (Below.refl _ _)).1 (HK.out w (Below.refl _ _)).2.2.1).mono ?_
  rintro e w1 ⟨rfl, hb1⟩
  rw [HLE.out]
  have HB1 := Lib.hid hb1
  obtain ⟨k0, k1, k2, k3, k4, k5⟩ := HK.out w1 hb1
  have HM1 := Lib.hid (refMay_calls acts a b _ _ _ w1 k1 k2 k3 HN10.out (fun x hx => (HAL.out.right x hx).1))
  clear hb1 h0 k0 k1 k2 k3 k4
  go_wp2_with (fail)
  refine HM1.out.mono ?_
  rintro e w2 ⟨rfl, hb2⟩
  rw [HAB.out]
  have HB2 := Lib.hid (HB1.out.trans (hb2.mono HB1.out.size))
  obtain ⟨j0, j1, j2, j3, j4, j5⟩ := HK.out w2 HB2.out
  have HM2 := Lib.hid (refMay_calls acts b a _ _ _ w2 j1 j3 j2 HN10.out (fun x hx => (HAL.out.rightb x hx).1))
  clear hb2 j0 j1 j2 j3 j4 k5
  go_wp2_with (fail)
  refine HM2.out.mono ?_
  rintro e w3 ⟨rfl, hb3⟩
  rw [HBA.out]
  have HB3 := Lib.hid (HB2.out.trans (hb3.mono HB2.out.size))
  obtain ⟨i0, i1, i2, i3, i4, i5⟩ := HK.out w3 HB3.out
  have HM3 := Lib.hid (refNormalR_calls HC.out HAL.out.right _ _ w3 i1 i2 (by have := HAL.out.few; omega))
  clear hb3 i0 i1 i2 i3 i4 j5
  go_wp2_with (fail)
  refine HM3.out.mono ?_
  rintro e w4 ⟨y, rfl, hy, hb4⟩
  rw [HAL.out.norm] at hy
  have HB4 := Lib.hid (HB3.out.trans (hb4.mono HB3.out.size))
  have HSM := Lib.hid (sameLabel_calls a _ _ w4 (HK.out w4 HB4.out).2.2.1 hy)
  clear hy hb4 i5
  go_wp2_with (fail)
  refine HSM.out.mono ?_
  rintro e w5 ⟨rfl, hb5⟩
  have HB5 := Lib.hid (HB4.out.trans (hb5.mono HB4.out.size))
  clear hb5
  go_wp2
  go_ret
  exact ⟨rfl, HB5.out⟩

set_option maxHeartbeats 4000000 in
set_option maxRecDepth 100000 in
theorem eqLabs_calls (l : List Txt) (acts : List (Txt × Txt)) (x y : List Lab) (vx vy v u : Value) (g0 g1 : Nat) (w : World) (h0 : w.cell? ⟨g0, 0, none⟩ = some v) (h1 : w.cell? ⟨g1, 0, none⟩ = some u) (hv : Strs w l v) (hu : Prs w acts u) (hx : Labs w x vx) (hy : Labs w y vy)
    (hc : checkC l acts = 0) (hlen : y.length = x.length) (hal : ∀ k (h : k < x.length) (h' : k < y.length), AlikeL l acts x[k] y[k]) :
    Calls Tryz.prog 22 #[vx, vy, .func (.func 23) #[] #[.pointer (some ⟨g0, 0, none⟩), .pointer (some ⟨g1, 0, none⟩)]] w fun e w' => e = .returned (.bool true) ∧ Below w.heap.size w w' := by
  obtain ⟨b1, o1, c1, p1, rfl, hlc1, hcm1, hp1, hcells1⟩ := hx.cells
  obtain ⟨b2, o2, p2, c2, rfl, hlc2, hcm2, hp2, hcells2⟩ := hy.open' hlen
  have eg : ∀ args w, (callFunc 23 args).run Tryz.prog w = .ok (.enter 23 args) w := enters_at Tryz.func23 (by kernel_rfl) rfl
  have HF : Hid (∀ k (hk : k < x.length), ∀ W, Below w.heap.size w W → ∃ pa na ca pb nb cb, W.cell? ⟨b1, o1 + k, none⟩ = some (.slice pa na ca) ∧ W.cell? ⟨b2, o2 + k, none⟩ = some (.slice pb nb cb) ∧
      Calls Tryz.prog 23 #[.slice pa na ca, .slice pb nb cb, .pointer (some ⟨g0, 0, none⟩), .pointer (some ⟨g1, 0, none⟩)] W fun e w' => e = .returned (.bool true) ∧ Below w.heap.size w w') := fun k hk W h => by
    obtain ⟨ua, e1, e2⟩ := hcells1 k hk
    obtain ⟨ub, e3, e4⟩ := hcells2 k (by omega)
    have e2' := e2
    have e4' := e4
    obtain ⟨pa, ca, rfl, _⟩ := e2'
    obtain ⟨pb, cb, rfl, _⟩ := e4'
    refine ⟨_, _, _, _, _, _, bkeptT h e1, bkeptT h e3, ?_⟩
    exact (leastF_calls l acts x[k] (y[k]'(by omega)) _ _ _ _ g0 g1 W (bkeptT h h0) (bkeptT h h1) (hv.stays (keeps_of_below h)) (hu.stays (keeps_of_below h)) (e2.stays (keeps_of_below h)) (e4.stays (keeps_of_below h)) hc (hal k hk (by omega))).mono fun e w' ⟨q1, q2⟩ => ⟨q1, h.trans (q2.mono h.size)⟩
  have HP1 := Lib.hid hp1
  have HP2 := Lib.hid hp2
  clear hx hy hv hu h0 h1 hal hcells1 hcells2 hp1 hp2 hlc2 hcm2 hlen hc
  go_enter Tryz.func22, Tryz.ntmps22
  go_wp2
  go_loopw [17] (fun i ws => ∃ (k : Nat) (wo : World), k ≤ x.length ∧ i = .int .i64 k ∧ wo = ws ∧ Hid (Below w.heap.size w wo)) (fun i _ => x.length - (intOf i).toNat)
  case atStart => exact ⟨0, _, Nat.zero_le _, rfl, rfl, Below.refl _ _⟩
  case round =>
    obtain ⟨k, wo, hk, rfl, rfl, HB⟩ := hrel
    by_cases hlt : k < x.length
    · obtain ⟨pa, na, ca, pb, nb, cb, e1, e2, e3⟩ := HF.out k hlt wo HB.out
      obtain rfl := HP1.out (by omega)
      obtain rfl := HP2.out (by omega)
      have HCA := Lib.hid e3
      clear e3
      go_wp2_with (fail)
      refine HCA.out.mono ?_
      rintro e w5 ⟨rfl, hb5⟩
      have HB5 := Lib.hid hb5
      clear hb5
      go_wp2
      go_roundw
      case rel => exact ⟨k + 1, _, by omega, by go_num, rfl, HB5⟩
      case measure => simp [intOf]; omega
    · go_wp2
      go_ret
      exact ⟨rfl, HB.out⟩

theorem alike_of {l : List Txt} {acts : List (Txt × Txt)} {N : Nat} {bs : List Bnd} {m m' : List Lab} (h : SolvedM l acts N bs m) (h' : LeastM l acts N bs m') (k : Nat) (hk : k < m.length) (hk' : k < m'.length) : AlikeL l acts m[k] m'[k] := by
  have h1 := h.least.least m' h'.right h'.holds k
  have h2 := h'.least m h.least.right h.least.holds k
  rw [List.getElem?_eq_getElem hk, List.getElem?_eq_getElem hk'] at h1 h2
  obtain ⟨j, e⟩ := h.iter
  refine ⟨h.least.right.right _ (List.getElem_mem hk), h'.right.right _ (List.getElem_mem hk'), Nat.le_trans (h.least.few _ (List.getElem_mem hk)) (by omega), h1, h2, ?_⟩
  exact iter_normal (q := mayB l acts) (n := N) (bs := bs) j _ (by rw [← e]; exact List.getElem_mem hk)

set_option maxHeartbeats 4000000 in
set_option maxRecDepth 100000 in
theorem solveLeast_calls (l : List Txt) (acts : List (Txt × Txt)) (n : Int) (bs : List Bnd) (v u s : Value) (mx : Int) (w : World) (hv : Strs w l v) (hu : Prs w acts u) (hs : Bnds w bs s)
    (hl : okList okTxt l) (ho : ∀ p ∈ acts, okTxt p.1 ∧ okTxt p.2) (hbo : okList okBnd bs) (hmx : w.cell? ⟨0, 0, none⟩ = some (.int .i64 mx)) :
    Calls Tryz.prog 4 #[v, u, .int .i64 n, s] w fun e w' => e = .returned (.bool true) ∧ Below w.heap.size w w' := by
  have hv0 := hv
  have hu0 := hu
  have hs0 := hs
  obtain ⟨b0, o0, c0, p0, rfl, _⟩ := hv.cells
  obtain ⟨b1, o1, c1, p1, rfl, _⟩ := hu.cells
  obtain ⟨b2, o2, c2, p2, rfl, _⟩ := hs.cells
  obtain ⟨W1, eW⟩ : ∃ W1, (w.alloc (.cells #[.slice p0 l.length c0] 22)).alloc (.cells #[.slice p1 acts.length c1] 23) = W1 := ⟨_, rfl⟩
  obtain ⟨z1, hW, m1, m2⟩ := boxes2 eW
  have j0 := m1 0
  have j1 := m2 0
  simp only [List.getElem?_toArray, List.getElem?_cons_zero, List.getElem?_cons_succ] at j0 j1
  have HX : Hid (∀ W, Below W1.heap.size W1 W → W.cell? ⟨w.heap.size, 0, none⟩ = some (.slice p0 l.length c0) ∧ W.cell? ⟨w.heap.size + 1, 0, none⟩ = some (.slice p1 acts.length c1)) := fun W h => ⟨bkeptT h j0, bkeptT h j1⟩
  have HW := Lib.hid hW
  have HK : Hid (∀ W, Below W1.heap.size W1 W → Below w.heap.size w W) := fun W h => hW.trans (h.mono hW.size)
  have HV : Hid (∀ W, Below W1.heap.size W1 W → Strs W l (.slice p0 l.length c0)) := fun W h => hv0.stays (keeps_of_below (HK.out W h))
  have HU : Hid (∀ W, Below W1.heap.size W1 W → Prs W acts (.slice p1 acts.length c1)) := fun W h => hu0.stays (keeps_of_below (HK.out W h))
  have HS : Hid (∀ W, Below W1.heap.size W1 W → Bnds W bs (.slice p2 bs.length c2)) := fun W h => hs0.stays (keeps_of_below (HK.out W h))
  have HBB : Hid (∀ W, Below W1.heap.size W1 W → Calls Tryz.prog 19 #[.slice p0 l.length c0, .slice p1 acts.length c1, .int .i64 n, .slice p2 bs.length c2] W fun e w' => e = .returned (.int .i64 (solveE l acts n bs)) ∧ Below W.heap.size W w') := fun W h =>
    badBounds_calls l acts n bs _ _ _ mx W (HV.out W h) (HU.out W h) (HS.out W h) hl ho (((HK.out W h).cell (cell_lt hmx)).trans hmx)
  have HLE := Lib.hid (least_calls l acts n bs _ _ _ W1 (HV.out W1 (Below.refl _ _)) (HU.out W1 (Below.refl _ _)) (HS.out W1 (Below.refl _ _)) hl hbo)
  clear hv hu hs hv0 hu0 hs0 hl ho hbo hmx m1 m2 z1 hW
  go_enter Tryz.func4, Tryz.ntmps4
  go_wp2_with (fail)
  refine HLE.out.mono ?_
  rintro e w2 ⟨y, m, rfl, hy, hok, hno, hso, hb2⟩
  have HB2 := Lib.hid hb2
  have HSO := Lib.hid hso
  have HNO := Lib.hid hno
  obtain ⟨_, _, cy, py, rfl, _⟩ := hy.cells
  have HY := Lib.hid hy
  obtain ⟨k0, k1⟩ := HX.out w2 hb2
  clear hb2 hso hno hok hy HLE j0 j1
  go_wp2_with (fail)
  refine (HBB.out w2 HB2.out).mono ?_
  rintro e w3 ⟨rfl, hb3⟩
  have HB3 := Lib.hid (HB2.out.trans (hb3.mono HB2.out.size))
  have HY3 := Lib.hid (HY.out.stays (keeps_of_below hb3))
  obtain ⟨i0, i1⟩ := HX.out w3 HB3.out
  clear hb3 k0 k1
  by_cases he : solveE l acts n bs = 0
  · obtain ⟨hc, hn0, hn1, hn2, hB⟩ := solveE_zero he
    obtain ⟨N, rfl⟩ : ∃ N : Nat, n = N := ⟨n.toNat, by omega⟩
    have HS0 := Lib.hid (HSO.out he)
    have HR : Hid (∀ W, Below W1.heap.size W1 W → Calls Tryz.prog 21 #[.slice p1 acts.length c1, .int .i64 (N : Int), .slice p2 bs.length c2] W fun e w' => ∃ y m, e = .returned y ∧ Labs w' m y ∧ LeastM l acts N bs m ∧ Below W.heap.size W w') := fun W h =>
      refLeast_calls l acts N bs _ _ W (HU.out W h) (HS.out W h) hc hB (by omega) hn2
    have HC := Lib.hid hc
    have he0 := he
    clear he hc hn0 hn1 hn2 hB
    rw [he0]
    clear he0
    go_wp2_with (fail)
    refine (solved_calls _).mono ?_
    rintro e w4 ⟨rfl, hb4⟩
    have HB4 := Lib.hid (HB3.out.trans (hb4.mono HB3.out.size))
    have HY4 := Lib.hid (HY3.out.stays (keeps_of_below hb4))
    obtain ⟨q0, q1⟩ := HX.out w4 HB4.out
    clear hb4 i0 i1
    go_wp2_with (fail)
    refine (HR.out w4 HB4.out).mono ?_
    rintro e w5 ⟨y', m', rfl, hy', hlm, hb5⟩
    have HB5 := Lib.hid (HB4.out.trans (hb5.mono HB4.out.size))
    have HY5 := Lib.hid (HY4.out.stays (keeps_of_below hb5))
    obtain ⟨r0, r1⟩ := HX.out w5 HB5.out
    have hlen : m'.length = m.length := by
      have e1 := hlm.right.len
      have e2 : m.length = N := HS0.out.least.right.len
      omega
    have HEQ := Lib.hid (eqLabs_calls l acts m m' _ _ _ _ w.heap.size (w.heap.size + 1) w5 r0 r1 (HV.out w5 HB5.out) (HU.out w5 HB5.out) HY5.out hy' HC.out hlen (fun k h h' => alike_of HS0.out hlm k h h'))
    obtain ⟨_, _, cz, pz, rfl, _⟩ := hy'.cells
    clear hy' hlm hlen hb5 q0 q1 r0 r1
    go_wp2_with (fail)
    refine HEQ.out.mono ?_
    rintro e w6 ⟨rfl, hb6⟩
    have HB6 := Lib.hid (HK.out w6 (HB5.out.trans (hb6.mono HB5.out.size)))
    clear hb6
    go_wp2
    go_ret
    exact ⟨rfl, HB6.out⟩
  · have HM : Hid (m = []) := HNO.out he
    have q3 : m.length = 0 := by rw [HM.out]; rfl
    have q1 : (solveE l acts n bs != 0) = true := by simpa using he
    have q2 : (solveE l acts n bs == 0) = false := by simpa using he
    clear he
    go_wp2_with (fail)
    refine (solved_calls _).mono ?_
    rintro e w4 ⟨rfl, hb4⟩
    have HB4 := Lib.hid (HB3.out.trans (hb4.mono HB3.out.size))
    clear hb4 i0 i1
    go_wp2_with (fail)
    refine (solved_calls _).mono ?_
    rintro e w5 ⟨rfl, hb5⟩
    have HB5 := Lib.hid (HK.out w5 (HB4.out.trans (hb5.mono HB4.out.size)))
    clear hb5
    go_wp2
    go_ret
    exact ⟨rfl, HB5.out⟩
end Go.Proofs.YtcgihpfanfbonaaGreatDoor
