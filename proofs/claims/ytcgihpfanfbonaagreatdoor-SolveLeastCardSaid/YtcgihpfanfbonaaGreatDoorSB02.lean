/-
  solve.Least: the least labels that hold what goes into them. solve.Broken: the bounds that labels don't hold.
-/
import Derived.Test.YtcgihpfanfbonaaGreatDoorSB01
import Derived.Deep.LoopGhost
import Derived.Deep.RegionWith
import Derived.Test.YtcgihpfanfbonaaGreatDoorLN02
namespace Go.Proofs.YtcgihpfanfbonaaGreatDoor
open Go.RowKit Go.Maps
set_option linter.unusedVariables false
set_option linter.unusedSimpArgs false

theorem info_label : (Tryz.prog.info? 25).map (fun i => (i.zero, i.size, i.bytes)) = some (some (.slice none 0 0), 1, 24) := by kernel_rfl

/-- What stands at the head of the outer loop. -/
structure LInv (l : List Txt) (acts : List (Txt × Txt)) (bs : List Bnd) (N : Nat) (w wo : World) (g : Nat) (a : Bool) (m : List Lab) (f : Nat → Value) (k : Nat) : Prop where
  below : Below w.heap.size w wo
  outs : Outs wo g 25 N m f
  ok : ∀ x ∈ m, okLab x
  sound : Sound l acts N bs m
  iter : ∃ j, m = itersM (mayB l acts) bs j (List.replicate N [])
  fuel : a = true → 1 + (N * 192 - sumN (mayB l acts) l m) ≤ k
  done : a = false → HoldsM (mayB l acts) bs m
/-- What stands at the head of the inner loop. -/
structure IInv (l : List Txt) (acts : List (Txt × Txt)) (bs : List Bnd) (N : Nat) (w : World) (g : Nat) (m : List Lab) (wi : World) (a : Bool) (m' : List Lab) (f : Nat → Value) (k : Nat) : Prop where
  below : Below w.heap.size w wi
  outs : Outs wi g 25 N m' f
  ok : ∀ x ∈ m', okLab x
  sound : Sound l acts N bs m'
  eq : m' = roundM (mayB l acts) (bs.take k) m
  no : a = false → m' = m ∧ ∀ j (hj : j < bs.length), j < k → holdsB (mayB l acts) m bs[j] = true
  yes : a = true → sumN (mayB l acts) l m < sumN (mayB l acts) l m'
section
variable {l : List Txt} {acts : List (Txt × Txt)} {bs : List Bnd} {N : Nat} {w wo wi wj : World} {g : Nat} {m m' : List Lab} {a : Bool} {f : Nat → Value} {k : Nat}
theorem LInv.inner (h : LInv l acts bs N w wo g a m f k) : IInv l acts bs N w g m wo false m f 0 :=
  ⟨h.below, h.outs, h.ok, h.sound, rfl, fun _ => ⟨rfl, fun j _ hj => absurd hj (Nat.not_lt_zero _)⟩, fun e => by cases e⟩
/-- A bound that holds. -/
theorem IInv.keep (h : IInv l acts bs N w g m wi a m' f k) (hk : k < bs.length) (hh : holdsB (mayB l acts) m' bs[k] = true) (hb : Below wi.heap.size wi wj) : IInv l acts bs N w g m wj a m' f (k + 1) := by
  refine ⟨h.below.trans (hb.mono h.below.size), h.outs.below hb, h.ok, h.sound, by rw [round_take hk, ← h.eq, stepM_holds hh], fun e => ⟨(h.no e).1, fun j hj hj' => ?_⟩, h.yes⟩
  by_cases ej : j = k
  · subst ej; rw [← (h.no e).1]; exact hh
  · exact (h.no e).2 j hj (by omega)
/-- A bound that does not hold: its label is raised. -/
theorem IInv.raise (h : IInv l acts bs N w g m wi a m' f k) (hl : l.length ≤ 6) (hg : w.heap.size ≤ g) (hk : k < bs.length) (hr : RightB l N bs[k]) {z : Nat} (hz : bTo bs[k] = z) (hzl : z < m'.length)
    (hf : flowsB (mayB l acts) (intoL (mayB l acts) m' bs[k]) m'[z] = false) (hb : Below wi.heap.size wi wj) {v : Value} (hv : Lbl wj (joinL (mayB l acts) m'[z] (intoL (mayB l acts) m' bs[k])) v)
    (hok : okLab (intoL (mayB l acts) m' bs[k])) :
    IInv l acts bs N w g m (wj.setCell ⟨g, z, none⟩ v) true (m'.set z (joinL (mayB l acts) m'[z] (intoL (mayB l acts) m' bs[k]))) (fun j => if j = z then v else f j) (k + 1) := by
  have hat : atL m' (bTo bs[k]) = m'[z] := by unfold atL; rw [hz]; simp [hzl]
  have h0 : ¬ bTo bs[k] < 0 := by omega
  rw [← hat] at hf
  obtain ⟨s1, s2⟩ := h.sound.raise hl (List.getElem_mem hk) hr h0 hf
  have hzt : (bTo bs[k]).toNat = z := by omega
  rw [hzt, hat] at s1 s2
  refine ⟨(h.below.trans (hb.mono h.below.size)).setCell hg _, (h.outs.below hb).set hv, fun x hx => ?_, s1, ?_, fun e => by (cases e), fun _ => ?_⟩
  · rcases List.mem_or_eq_of_mem_set hx with hx | rfl
    · exact h.ok x hx
    · exact okLab_join (h.ok _ (List.getElem_mem hzl)) hok
  · rw [round_take hk, ← h.eq, stepM_raise h0 hf, hzt, hat]
  · cases a with
    | true => exact Nat.lt_trans (h.yes rfl) s2
    | false => rw [← (h.no rfl).1]; exact s2
/-- Behind all bounds. -/
theorem IInv.outer (h : IInv l acts bs N w g m wi a m' f bs.length) (hl : l.length ≤ 6) {f0 : Nat → Value} {w0 : World} {K : Nat} (h0 : LInv l acts bs N w w0 g true m f0 K) : LInv l acts bs N w wi g a m' f (K - 1) ∧ K - 1 < K := by
  have e := h.eq
  rw [List.take_length] at e
  have hfu := h0.fuel rfl
  refine ⟨⟨h.below, h.outs, h.ok, h.sound, ?_, fun ea => ?_, fun ea b hb => ?_⟩, by omega⟩
  · obtain ⟨j, rfl⟩ := h0.iter
    exact ⟨j + 1, e⟩
  · have := h.yes ea
    have := sumN_le hl (mayB l acts) m'
    rw [h.outs.len] at this
    omega
  · obtain ⟨j, hj, rfl⟩ := List.getElem_of_mem hb
    rw [(h.no ea).1]
    exact (h.no ea).2 j hj hj
theorem LInv.solved (h : LInv l acts bs N w wo g false m f k) : SolvedM l acts N bs m := ⟨h.sound.done (h.done rfl), h.iter, round_holds (h.done rfl)⟩
theorem LInv.start {w1 : World} (hb : Below w.heap.size w w1) (l : List Txt) (acts : List (Txt × Txt)) (bs : List Bnd) (N : Nat) :
    LInv l acts bs N w (w1.alloc (.cells (madeCells #[.slice none 0 0] N) 25)) w1.heap.size true (List.replicate N []) (fun _ => .slice none 0 0) (1 + N * 192) :=
  ⟨hb.alloc hb.size _, Outs.start w1 N _, (fun x hx => by rw [List.eq_of_mem_replicate hx]; exact fun p hp => nomatch hp), Sound.start l acts N bs, ⟨0, rfl⟩, (fun _ => by omega), fun e => nomatch e⟩
/-- A right label brought by a bound. -/
theorem into_labE (hc : checkC l acts = 0) (h : RightM l N m') {b : Bnd} (hB : RightB l N b) : labE l acts (intoL (mayB l acts) m' b) = 0 := less_right hc (h.joins _ _ _ hB.lab.1) _ _
end

set_option maxHeartbeats 8000000 in
set_option maxRecDepth 100000 in
theorem least_calls (l : List Txt) (acts : List (Txt × Txt)) (n : Int) (bs : List Bnd) (v u t : Value) (w : World) (hv : Strs w l v) (hu : Prs w acts u) (ht : Bnds w bs t) (hl : okList okTxt l) (ho : okList okBnd bs) :
    Calls Tryz.prog 18 #[v, u, .int .i64 n, t] w fun e w' => ∃ y m, e = .returned (.tuple #[y, .int .i64 (solveE l acts n bs)]) ∧ Labs w' m y ∧ (∀ x ∈ m, okLab x) ∧ (solveE l acts n bs ≠ 0 → m = []) ∧ (solveE l acts n bs = 0 → SolvedM l acts n.toNat bs m) ∧ Below w.heap.size w w' := by
  have HSC := Lib.hid (solveCheck_calls l acts n bs v u t w hv hu ht)
  obtain ⟨b0, o0, c0, p0, rfl, _⟩ := hv.cells
  obtain ⟨b1, o1, c1, p1, rfl, _⟩ := hu.cells
  obtain ⟨b2, o2, c2, p2, rfl, hlc2, hcm2, hp2, hcells2⟩ := ht.cells
  by_cases he : solveE l acts n bs = 0
  · obtain ⟨hc, hn0, hn1, hn2, hB⟩ := solveE_zero he
    obtain ⟨N, rfl⟩ : ∃ N : Nat, n = N := ⟨n.toNat, by omega⟩
    have hmk := run_make_row' (P := Tryz.prog) 44 25 (.slice none 0 0) 24 Tryz.underlying44 info_label rfl .i64 .i64 N (by omega) (by omega)
    have hN : N ≤ 400 := by omega
    have hl6 : l.length ≤ 6 := (checkC_zero hc).1
    have HE := Lib.hid he
    have HC := Lib.hid hc
    have HRB := Lib.hid hB
    have HV := Lib.hid hv
    have HU := Lib.hid hu
    have HCE := Lib.hid hcells2
    have HPP := Lib.hid hp2
    have HOB := Lib.hid ho
    have HN4 := Lib.hid hN
    have HL6 := Lib.hid hl6
    clear he hc hB hv hu ht hcells2 hp2 ho hn0 hn1 hN hl6
    go_enter Tryz.func18, Tryz.ntmps18
    go_wp2_with (fail)
    refine HSC.out.mono ?_
    rintro e w1 ⟨rfl, hb1⟩
    rw [HE.out]
    have HL0 := Lib.hid (LInv.start hb1 l acts bs N)
    obtain ⟨W2, eW⟩ : ∃ W2, w1.alloc (.cells (madeCells #[.slice none 0 0] N) 25) = W2 := ⟨_, rfl⟩
    rw [eW] at HL0
    have HG : Hid (w.heap.size ≤ w1.heap.size) := hb1.size
    generalize hg : w1.heap.size = g at *
    clear hb1 HSC
    go_wp2
    go_loopg [12] (1 + N * 192) (fun k ag ws => ∃ (a : Bool) (m : List Lab) (f : Nat → Value) (wo : World), ag = .bool a ∧ wo = ws ∧ Hid (LInv l acts bs N w wo g a m f k))
    case atStart => exact ⟨true, _, _, _, rfl, rfl, HL0.out⟩
    case round =>
      clear HL0
      obtain ⟨a, m, f, wo, rfl, rfl, HI⟩ := hrel
      cases a with
      | false =>
        have HS := Lib.hid HI.out.solved
        go_wp2
        go_ret2
        exact ⟨_, m, by rw [HE.out]; rfl, HI.out.outs.labels HN4.out, HI.out.ok, fun e => absurd HE.out e, fun _ => HS.out, HI.out.below⟩
      | true =>
        go_wp2
        go_loopw [12, 31] (fun ag i ws => ∃ (k : Nat) (a : Bool) (m' : List Lab) (f' : Nat → Value) (wi : World), k ≤ bs.length ∧ ag = .bool a ∧ i = .int .i64 k ∧ wi = ws ∧ Hid (IInv l acts bs N w g m wi a m' f' k)) (fun _ i _ => bs.length - (intOf i).toNat)
        case atStart => exact ⟨0, false, m, f, _, Nat.zero_le _, rfl, rfl, rfl, HI.out.inner⟩
        case round =>
          obtain ⟨k, a, m', f', wi, hk, rfl, rfl, rfl, HJ⟩ := hrel
          by_cases hlt : k < bs.length
          · obtain ⟨x0, x1, x2, x3, x4, x5, his, e0, e1, e2, e3, e4, e5⟩ := HCE.out k hlt
            obtain rfl := HPP.out (by omega)
            have hbw := HJ.out.below
            have his' := his.stays (keeps_of_below hbw)
            have k0 : wi.cell? ⟨b2, o2 + k * 6, none⟩ = some x0 := (hbw.cell (cell_lt e0)).trans e0
            have k1 : wi.cell? ⟨b2, o2 + k * 6 + 1, none⟩ = some x1 := (hbw.cell (cell_lt e1)).trans e1
            have k2 : wi.cell? ⟨b2, o2 + k * 6 + 2, none⟩ = some x2 := (hbw.cell (cell_lt e2)).trans e2
            have k3 : wi.cell? ⟨b2, o2 + k * 6 + 3, none⟩ = some x3 := (hbw.cell (cell_lt e3)).trans e3
            have k4 : wi.cell? ⟨b2, o2 + k * 6 + 4, none⟩ = some x4 := (hbw.cell (cell_lt e4)).trans e4
            have k5 : wi.cell? ⟨b2, o2 + k * 6 + 5, none⟩ = some x5 := (hbw.cell (cell_lt e5)).trans e5
            clear his e0 e1 e2 e3 e4 e5 hbw
            by_cases t1 : bTo bs[k] < 0
            · have hh : holdsB (mayB l acts) m' bs[k] = true := by unfold holdsB; simp [t1]
              have hto := his'.to
              obtain ⟨bf, of_, cf, pf, rfl, _⟩ := his'.from_.cells
              obtain ⟨bl, ol, cl, pl, rfl, _⟩ := his'.lab.cells
              obtain ⟨bi, oi, ci, pi_, rfl, _⟩ := his'.into.cells
              obtain ⟨bo, oo, co, po, rfl, _⟩ := his'.for_.cells
              have hat := his'.at_
              subst hto hat
              obtain ⟨W4, eW4⟩ : ∃ W4, wi.alloc (.cells #[.slice pf (bFrom bs[k]).length cf, .slice pl (bL bs[k]).length cl, .int .i64 (bTo bs[k]), .slice pi_ (bInto bs[k]).length ci, .int .i64 bs[k].2.2.2.2.1, .slice po (bFor bs[k]).length co] 93) = W4 := ⟨_, rfl⟩
              obtain ⟨z4, hW4, m4⟩ := boxes1 eW4
              have j2 := m4 2
              simp only [List.getElem?_toArray, List.getElem?_cons_zero, List.getElem?_cons_succ] at j2
              have HJ4 := Lib.hid (HJ.out.keep hlt hh hW4)
              clear his' hh m4 hW4 z4
              go_wp2
              go_roundw
              case rel => exact ⟨k + 1, a, m', f', _, by omega, rfl, by go_num, rfl, HJ4.out⟩
              case measure => simp [intOf]; omega
            · have hrb := HRB.out _ (List.getElem_mem hlt)
              obtain ⟨z, hz⟩ : ∃ z : Nat, bTo bs[k] = z := ⟨(bTo bs[k]).toNat, by omega⟩
              have hlen := HJ.out.outs.len
              have hzN : z < N := by have := hrb.hi; omega
              have hzl : z < m'.length := by omega
              have hto : x2 = .int .i64 z := by rw [his'.to, hz]
              have hat := his'.at_
              subst hto hat
              obtain ⟨bf, of_, cf, pf, rfl, _⟩ := his'.from_.cells
              obtain ⟨bl, ol, cl, pl, rfl, _⟩ := his'.lab.cells
              obtain ⟨bi, oi, ci, pi_, rfl, _⟩ := his'.into.cells
              obtain ⟨bo, oo, co, po, rfl, _⟩ := his'.for_.cells
              obtain ⟨W4, eW4⟩ : ∃ W4, wi.alloc (.cells #[.slice pf (bFrom bs[k]).length cf, .slice pl (bL bs[k]).length cl, .int .i64 z, .slice pi_ (bInto bs[k]).length ci, .int .i64 bs[k].2.2.2.2.1, .slice po (bFor bs[k]).length co] 93) = W4 := ⟨_, rfl⟩
              obtain ⟨z4, hW4, m4⟩ := boxes1 eW4
              have j0 := m4 0
              have j1 := m4 1
              have j2 := m4 2
              have j3 := m4 3
              have j4 := m4 4
              have j5 := m4 5
              simp only [List.getElem?_toArray, List.getElem?_cons_zero, List.getElem?_cons_succ] at j0 j1 j2 j3 j4 j5
              have J2 := Lib.hid j2
              have HW4 := Lib.hid hW4
              have HBW : Hid (Below w.heap.size w W4) := HJ.out.below.trans (hW4.mono HJ.out.below.size)
              have HO4 := Lib.hid (HJ.out.outs.below hW4)
              have HRM : Hid (RightM l m'.length m') := by unfold Hid; rw [hlen]; exact HJ.out.sound.right
              have HRB' : Hid (RightB l m'.length bs[k]) := by unfold Hid; rw [hlen]; exact hrb
              have hokb := HOB.out _ (List.getElem_mem hlt)
              have HIC := Lib.hid (into_calls l acts m' bs[k] _ _ _ _ _ _ _ _ _ W4 (HV.out.stays (keeps_of_below HBW.out)) (HU.out.stays (keeps_of_below HBW.out)) (HO4.out.labels HN4.out) (his'.stays (keeps_of_below hW4)) hl HJ.out.ok hokb.2.1 hokb.2.2.2.2.2 HC.out HRM.out (fun x hx => by have := HJ.out.sound.few x hx; omega) HRB'.out)
              have hle1 : labE l acts (intoL (mayB l acts) m' bs[k]) = 0 := into_labE HC.out HRM.out HRB'.out
              have hle2 : labE l acts m'[z] = 0 := labE_of HC.out (labErr_of (by have := HJ.out.sound.few _ (List.getElem_mem hzl); omega) (HRM.out.right _ (List.getElem_mem hzl)))
              have HOS : Hid (okLab (intoL (mayB l acts) m' bs[k])) := okLab_less (okLab_joins HJ.out.ok _ hokb.2.1) _
              have HOZ : Hid (okLab m'[z]) := HJ.out.ok _ (List.getElem_mem hzl)
              have HF1 : Hid (flowsE l acts (intoL (mayB l acts) m' bs[k]) m'[z] = 0) := flowsE_of hle1 hle2
              have HF2 : Hid (flowsR l acts (intoL (mayB l acts) m' bs[k]) m'[z] = flowsB (mayB l acts) (intoL (mayB l acts) m' bs[k]) m'[z]) := flowsR_of hle1 hle2
              have HF3 : Hid (flowsE l acts m'[z] (intoL (mayB l acts) m' bs[k]) = 0) := flowsE_of hle2 hle1
              have HF4 : Hid (joinR l acts m'[z] (intoL (mayB l acts) m' bs[k]) = joinL (mayB l acts) m'[z] (intoL (mayB l acts) m' bs[k])) := by unfold Hid joinR; rw [if_pos HF3.out]
              have HZ := Lib.hid hz
              have HH : Hid (holdsB (mayB l acts) m' bs[k] = flowsB (mayB l acts) (intoL (mayB l acts) m' bs[k]) m'[z]) := by
                have hat : atL m' (bTo bs[k]) = m'[z] := by unfold atL; rw [hz]; simp [hzl]
                unfold Hid holdsB
                rw [hat]
                simp [t1]
              have HZL := Lib.hid hzl
              have HRBN := Lib.hid hrb
              have HZV : Hid (Lbl W4 m'[z] (f' z)) := HO4.out.labs z hzl
              have HDONE : Hid (flowsB (mayB l acts) (intoL (mayB l acts) m' bs[k]) m'[z] = false → ∀ w7 y7, Lbl w7 (joinL (mayB l acts) m'[z] (intoL (mayB l acts) m' bs[k])) y7 → Below W4.heap.size W4 w7 →
                  IInv l acts bs N w g m (w7.setCell ⟨g, z, none⟩ y7) true (m'.set z (joinL (mayB l acts) m'[z] (intoL (mayB l acts) m' bs[k]))) (fun j => if j = z then y7 else f' j) (k + 1)) :=
                fun hf w7 y7 hy hb => HJ.out.raise HL6.out HG.out hlt hrb hz hzl hf (HW4.out.trans (hb.mono HW4.out.size)) hy HOS.out
              have hsl := HZV.out
              obtain ⟨bz, oz, cz, pz, hfz, _⟩ := hsl.cells
              have hzl' : (z : Int) < (N : Int) := by omega
              have hz0 : ¬ (z : Int) < 0 := by omega
              have hgc : W4.cell? ⟨g, z, none⟩ = some (f' z) := HO4.out.cell hzN
              rw [hfz] at hgc HZV
              have HGC := Lib.hid hgc
              have HLT := Lib.hid hlt
              clear his' m4 z4 hW4 hokb hle1 hle2 hz hlen hzN hrb hsl hgc t1
              generalize hIS : intoL (mayB l acts) m' bs[k] = S at *
              generalize hMZ : m'[z] = Z at *
              have HIS := Lib.hid hIS
              have HMZ := Lib.hid hMZ
              clear hIS hMZ
              go_wp2_with (fail)
              refine HIC.out.mono ?_
              rintro e w5 ⟨y, rfl, hy, hb5⟩
              obtain ⟨by_, oy, cy, py, rfl, _⟩ := hy.cells
              have HY := Lib.hid hy
              have HB5 := Lib.hid hb5
              have g2 : w5.cell? ⟨wi.heap.size, 2, none⟩ = some (.int .i64 z) := (hb5.cell (cell_lt J2.out)).trans J2.out
              have gz : w5.cell? ⟨g, z, none⟩ = some (.slice pz Z.length cz) := (hb5.cell (cell_lt HGC.out)).trans HGC.out
              have HBW5 : Hid (Below w.heap.size w w5) := HBW.out.trans (hb5.mono HBW.out.size)
              have HZ5 := Lib.hid (HZV.out.stays (keeps_of_below hb5))
              clear hy hb5 j0 j1 j2 j3 j4 j5 k0 k1 k2 k3 k4 k5
              cases hfl : flowsB (mayB l acts) S Z with
              | true =>
                have HFL := Lib.hid hfl
                clear hfl
                go_wp2_with (fail)
                refine (flows_calls l acts S Z _ _ _ _ _ (HV.out.stays (keeps_of_below HBW5.out)) (HU.out.stays (keeps_of_below HBW5.out)) HY.out HZ5.out hl HOS.out HOZ.out).mono ?_
                rintro e w6 ⟨rfl, hb6⟩
                rw [HF1.out, HF2.out, HFL.out]
                have HJ6 := Lib.hid (HJ.out.keep HLT.out (by rw [HH.out, HFL.out]) (HW4.out.trans ((HB5.out.trans (hb6.mono HB5.out.size)).mono HW4.out.size)))
                clear hb6
                go_wp2
                go_roundw
                case rel => exact ⟨k + 1, a, m', f', _, by omega, rfl, by go_num, rfl, HJ6.out⟩
                case measure => simp [intOf]; omega
              | false =>
                have HFL := Lib.hid hfl
                clear hfl
                go_wp2_with (fail)
                refine (flows_calls l acts S Z _ _ _ _ _ (HV.out.stays (keeps_of_below HBW5.out)) (HU.out.stays (keeps_of_below HBW5.out)) HY.out HZ5.out hl HOS.out HOZ.out).mono ?_
                rintro e w6 ⟨rfl, hb6⟩
                rw [HF1.out, HF2.out, HFL.out]
                have HBW6 : Hid (Below w.heap.size w w6) := HBW5.out.trans (hb6.mono HBW5.out.size)
                have h2c : w6.cell? ⟨wi.heap.size, 2, none⟩ = some (.int .i64 z) := (hb6.cell (cell_lt g2)).trans g2
                have hzc : w6.cell? ⟨g, z, none⟩ = some (.slice pz Z.length cz) := (hb6.cell (cell_lt gz)).trans gz
                have HB46 : Hid (Below W4.heap.size W4 w6) := HB5.out.trans (hb6.mono HB5.out.size)
                have HY6 := Lib.hid (HY.out.stays (keeps_of_below hb6))
                have HZ6 := Lib.hid (HZ5.out.stays (keeps_of_below hb6))
                clear hb6 g2 gz
                have HJC : Hid (Calls Tryz.prog 7 #[.slice p0 l.length c0, .slice p1 acts.length c1, .slice pz Z.length cz, .slice py S.length cy] w6.drew fun e w' => ∃ p7 n7 c7, e = .returned (.tuple #[.slice p7 n7 c7, .int .i64 0]) ∧ Lbl w' (joinL (mayB l acts) Z S) (.slice p7 n7 c7) ∧ Below W4.heap.size W4 w' ∧
                    w'.cell? ⟨wi.heap.size, 2, none⟩ = some (.int .i64 z) ∧ w'.cell? ⟨g, z, none⟩ = some (.slice pz Z.length cz) ∧ w'.frozen? ⟨g, z, none⟩ = false) := by
                  have hd : Below w6.heap.size w6 w6.drew := (Below.refl _ _).drew
                  refine (join_lab_calls l acts Z S _ _ _ _ w6.drew (HV.out.stays (keeps_of_below (HBW6.out.trans (hd.mono HBW6.out.size)))) (HU.out.stays (keeps_of_below (HBW6.out.trans (hd.mono HBW6.out.size)))) (HZ6.out.stays (keeps_of_below hd)) (HY6.out.stays (keeps_of_below hd)) hl HOZ.out HOS.out).mono ?_
                  rintro e w' ⟨y, rfl, hy, hb⟩
                  have hb' : Below w6.heap.size w6 w' := hd.trans hb
                  have hb4 : Below W4.heap.size W4 w' := HB46.out.trans (hb'.mono HB46.out.size)
                  rw [HF3.out]
                  rw [HF4.out] at hy
                  obtain ⟨b7, o7, c7, p7, rfl, _⟩ := hy.cells
                  exact ⟨p7, _, c7, rfl, hy, hb4, (hb'.cell (cell_lt h2c)).trans h2c, (hb'.cell (cell_lt hzc)).trans hzc, (HO4.out.below hb4).row.frozen z⟩
                go_wp2
                go_region_with (go_at_call 7; refine HJC.out.mono ?_; rintro e w7 ⟨p7, n7, c7, rfl, hy7, hb7, h2d, hzd, hfz7⟩)
                all_goals (try go_wp2)
                all_goals go_roundw
                all_goals first
                  | exact ⟨k + 1, true, _, _, _, by omega, rfl, by go_num, rfl, HDONE.out HFL.out _ _ hy7 hb7⟩
                  | (simp [intOf]; omega)
          · obtain rfl : k = bs.length := by omega
            have HO := Lib.hid (HJ.out.outer HL6.out HI.out)
            go_wp2
            go_roundg (gk - 1)
            case measure => exact HO.out.2
            case rel => exact ⟨a, m', f', _, rfl, rfl, HO.out.1⟩
  · have hq : (solveE l acts n bs != 0) = true := by simpa using he
    have hq2 : (solveE l acts n bs == 0) = false := by simpa using he
    have HE := Lib.hid he
    clear he
    go_enter Tryz.func18, Tryz.ntmps18
    go_wp2_with (fail)
    refine HSC.out.mono ?_
    rintro e w1 ⟨rfl, hb1⟩
    go_wp2
    go_ret2
    exact ⟨_, [], rfl, nil_readsS _ _ _, (fun x hx => nomatch hx), fun _ => rfl, fun e => absurd e HE.out, hb1⟩
end Go.Proofs.YtcgihpfanfbonaaGreatDoor
namespace Go.Proofs.YtcgihpfanfbonaaGreatDoor
open Go.RowKit Go.Maps
set_option linter.unusedVariables false
set_option linter.unusedSimpArgs false

theorem info_intB : (Tryz.prog.info? 3).map (fun i => (i.zero, i.size, i.bytes)) = some (some (.int .i64 0), 1, 8) := by kernel_rfl
theorem Nums.of_owns {w : World} {l : List Int} {base : Nat} {e : TypeId} {v : Value} (h : w.ownsRow base e 1 v l.length (l.map (Value.int .i64))) : Nums w l v :=
  SliceOf.of_owns h fun i hi => ⟨_, rfl, rfl, fun j x hx => by
    match j, hx with
    | 0, hx =>
      simp at hx
      subst hx
      simp [hi]⟩
/-- Where a bound goes. -/
def goalL (m : List Lab) (b : Bnd) : Lab := if bTo b < 0 then bInto b else atL m (bTo b)
theorem broke_goal (q : Txt → Txt → Bool) (m : List Lab) (b : Bnd) : broke q m b = !flowsB q (intoL q m b) (goalL m b) := rfl

set_option maxHeartbeats 8000000 in
set_option maxRecDepth 100000 in
theorem broken_calls (l : List Txt) (acts : List (Txt × Txt)) (m : List Lab) (bs : List Bnd) (v u t s : Value) (w : World) (hv : Strs w l v) (hu : Prs w acts u) (ht : Labs w m t) (hs : Bnds w bs s) (hl : okList okTxt l) (hm : ∀ x ∈ m, okLab x) (ho : okList okBnd bs) :
    Calls Tryz.prog 26 #[v, u, t, s] w fun e w' => ∃ y, e = .returned (.tuple #[y, .int .i64 (brokenE l acts m bs)]) ∧ Nums w' (brokenR l acts m bs) y ∧ Below w.heap.size w w' := by
  obtain ⟨b0, o0, c0, p0, rfl, _⟩ := hv.cells
  obtain ⟨b1, o1, c1, p1, rfl, _⟩ := hu.cells
  obtain ⟨b3, o3, c3, p3, rfl, hlc3, hcm3, hp3, hcells3⟩ := ht.cells
  have HSC := Lib.hid (solveCheck_calls l acts m.length bs _ _ s w hv hu hs)
  obtain ⟨b2, o2, c2, p2, rfl, hlc2, hcm2, hp2, hcells2⟩ := hs.cells
  by_cases he : solveE l acts m.length bs = 0
  · obtain ⟨hc, hn0, hn1, hn2, hB⟩ := solveE_zero he
    have HE := Lib.hid he
    have HX : Hid (brokenE l acts m bs = labsErr l acts m) := by unfold Hid brokenE; rw [if_neg (by omega)]
    have HC := Lib.hid hc
    have HRB := Lib.hid hB
    have HV := Lib.hid hv
    have HU := Lib.hid hu
    have HT := Lib.hid ht
    have HCE := Lib.hid hcells2
    have HPP := Lib.hid hp2
    have HCL := Lib.hid hcells3
    have HP3 := Lib.hid hp3
    have HOB := Lib.hid ho
    have HOM := Lib.hid hm
    have HN2 := Lib.hid hn2
    obtain ⟨t0, hi, hz0, hz1, hz2⟩ := info_parts info_intB
    clear he hc hB hv hu ht hs hcells2 hp2 hcells3 hp3 ho hm hn0 hn1 hn2
    go_enter Tryz.func26, Tryz.ntmps26
    go_wp2_with (fail)
    refine HSC.out.mono ?_
    rintro e w1 ⟨rfl, hb1⟩
    rw [HE.out]
    have HB1 := Lib.hid hb1
    clear hb1 HSC
    go_wp2
    go_loopw [32] (fun i ws => ∃ (k : Nat) (wo : World), k ≤ m.length ∧ i = .int .i64 k ∧ wo = ws ∧ Below w.heap.size w wo ∧ Hid (∀ j (hj : j < m.length), j < k → labE l acts m[j] = 0)) (fun i _ => m.length - (intOf i).toNat)
    case atStart => exact ⟨0, _, Nat.zero_le _, rfl, rfl, HB1.out, fun j _ hj => absurd hj (Nat.not_lt_zero _)⟩
    case round =>
      obtain ⟨k, wo, hk, rfl, rfl, hbr, HK⟩ := hrel
      by_cases hlt : k < m.length
      · obtain ⟨uk, g0, g1⟩ := HCL.out k hlt
        obtain rfl := HP3.out (by omega)
        have k0 : wo.cell? ⟨b3, o3 + k, none⟩ = some uk := (hbr.cell (cell_lt g0)).trans g0
        have g1' := g1.stays (keeps_of_below hbr)
        obtain ⟨bk, ok_, ck, pk_, rfl, _⟩ := g1'.cells
        have HG1 := Lib.hid g1'
        have HBR := Lib.hid hbr
        clear g0 g1 g1' hbr
        by_cases hk0 : labE l acts m[k] = 0
        · have HK0 := Lib.hid hk0
          clear hk0
          go_wp2_with (fail)
          refine (labCheck_calls l acts m[k] _ _ _ _ (HV.out.stays (keeps_of_below HBR.out)) (HU.out.stays (keeps_of_below HBR.out)) HG1.out).mono ?_
          rintro e w2 ⟨rfl, hb2⟩
          rw [HK0.out]
          have HB2 := Lib.hid (HBR.out.trans (hb2.mono HBR.out.size))
          clear hb2
          go_wp2
          go_roundw
          case rel =>
            refine ⟨k + 1, _, by omega, by go_num, rfl, HB2.out, fun j hj hj' => ?_⟩
            by_cases e : j = k
            · subst e; exact HK0.out
            · exact HK.out j hj (by omega)
          case measure => simp [intOf]; omega
        · have HF : Hid (brokenE l acts m bs = labE l acts m[k] ∧ brokenR l acts m bs = []) := by
            have e : brokenE l acts m bs = labE l acts m[k] := by rw [HX.out]; exact labsErr_at hlt hk0 HK.out
            exact ⟨e, by unfold brokenR; rw [e, if_neg hk0]⟩
          have hq : (labE l acts m[k] != 0) = true := by simpa using hk0
          have hq2 : (labE l acts m[k] == 0) = false := by simpa using hk0
          clear hk0
          go_wp2_with (fail)
          refine (labCheck_calls l acts m[k] _ _ _ _ (HV.out.stays (keeps_of_below HBR.out)) (HU.out.stays (keeps_of_below HBR.out)) HG1.out).mono ?_
          rintro e w2 ⟨rfl, hb2⟩
          have HB2 := Lib.hid (HBR.out.trans (hb2.mono HBR.out.size))
          clear hb2
          go_wp2
          go_ret2
          exact ⟨_, by rw [HF.out.1]; rfl, by rw [HF.out.2]; exact nil_readsS _ _ _, HB2.out⟩
      · have HLE : Hid (∀ x ∈ m, labE l acts x = 0) := fun x hx => by
          obtain ⟨j, hj, rfl⟩ := List.getElem_of_mem hx
          exact HK.out j hj (by omega)
        have HX0 : Hid (brokenE l acts m bs = 0) := by unfold Hid; rw [HX.out]; exact labsErr_zero.2 HLE.out
        have HXR : Hid (brokenR l acts m bs = brokenTo (mayB l acts) m bs bs.length) := by unfold Hid brokenR; rw [if_pos HX0.out]
        have HRM : Hid (RightM l m.length m) := ⟨rfl, fun x hx => right_of (HLE.out x hx)⟩
        have HFEW : Hid (∀ x ∈ m, x.length ≤ 200) := fun x hx => (labErr_zero (labE_check (HLE.out x hx)).2).1
        have HBR := Lib.hid hbr
        clear hbr HK hk
        go_wp2
        go_loopw [14, 46] (fun o i ws => ∃ (j : Nat) (wo' : World) (ov : Value), j ≤ bs.length ∧ i = .int .i64 j ∧ wo' = ws ∧ ov = o ∧ Hid (Below wo.heap.size wo wo') ∧ Hid (wo'.ownsRow wo.heap.size 3 1 ov (brokenTo (mayB l acts) m bs j).length ((brokenTo (mayB l acts) m bs j).map (Value.int .i64)))) (fun _ i _ => bs.length - (intOf i).toNat)
        case atStart => exact ⟨0, _, _, Nat.zero_le _, rfl, rfl, rfl, Below.refl _ _, World.ownsRow_nil _ _ _ _⟩
        case round =>
          obtain ⟨j, wi, ov, hj, rfl, rfl, rfl, HBI, HOW⟩ := hrel
          have HBW : Hid (Below w.heap.size w wi) := HBR.out.trans (HBI.out.mono HBR.out.size)
          by_cases hlj : j < bs.length
          · obtain ⟨x0, x1, x2, x3, x4, x5, his, e0, e1, e2, e3, e4, e5⟩ := HCE.out j hlj
            obtain rfl := HPP.out (by omega)
            have hbw := HBW.out
            have his' := his.stays (keeps_of_below hbw)
            have k0 : wi.cell? ⟨b2, o2 + j * 6, none⟩ = some x0 := (hbw.cell (cell_lt e0)).trans e0
            have k1 : wi.cell? ⟨b2, o2 + j * 6 + 1, none⟩ = some x1 := (hbw.cell (cell_lt e1)).trans e1
            have k2 : wi.cell? ⟨b2, o2 + j * 6 + 2, none⟩ = some x2 := (hbw.cell (cell_lt e2)).trans e2
            have k3 : wi.cell? ⟨b2, o2 + j * 6 + 3, none⟩ = some x3 := (hbw.cell (cell_lt e3)).trans e3
            have k4 : wi.cell? ⟨b2, o2 + j * 6 + 4, none⟩ = some x4 := (hbw.cell (cell_lt e4)).trans e4
            have k5 : wi.cell? ⟨b2, o2 + j * 6 + 5, none⟩ = some x5 := (hbw.cell (cell_lt e5)).trans e5
            clear his e0 e1 e2 e3 e4 e5 hbw
            have hrb := HRB.out _ (List.getElem_mem hlj)
            have hto := his'.to
            have hat := his'.at_
            subst hto hat
            obtain ⟨bf, of_, cf, pf, rfl, _⟩ := his'.from_.cells
            obtain ⟨bl, ol, cl, pl, rfl, _⟩ := his'.lab.cells
            obtain ⟨bi, oi, ci, pi_, rfl, _⟩ := his'.into.cells
            obtain ⟨bo, oo, co, po, rfl, _⟩ := his'.for_.cells
            obtain ⟨W4, eW4⟩ : ∃ W4, wi.alloc (.cells #[.slice pf (bFrom bs[j]).length cf, .slice pl (bL bs[j]).length cl, .int .i64 (bTo bs[j]), .slice pi_ (bInto bs[j]).length ci, .int .i64 bs[j].2.2.2.2.1, .slice po (bFor bs[j]).length co] 93) = W4 := ⟨_, rfl⟩
            obtain ⟨z4, hW4, m4⟩ := boxes1 eW4
            have j0 := m4 0
            have j1 := m4 1
            have j2 := m4 2
            have j3 := m4 3
            have j4 := m4 4
            have j5 := m4 5
            simp only [List.getElem?_toArray, List.getElem?_cons_zero, List.getElem?_cons_succ] at j0 j1 j2 j3 j4 j5
            have J2 := Lib.hid j2
            have J3 := Lib.hid j3
            have HW4 := Lib.hid hW4
            have HBW4 : Hid (Below w.heap.size w W4) := HBW.out.trans (hW4.mono HBW.out.size)
            have hokb := HOB.out _ (List.getElem_mem hlj)
            have HIN4 := Lib.hid (his'.into.stays (keeps_of_below hW4))
            have HIC := Lib.hid (into_calls l acts m bs[j] _ _ _ _ _ _ _ _ _ W4 (HV.out.stays (keeps_of_below HBW4.out)) (HU.out.stays (keeps_of_below HBW4.out)) (HT.out.stays (keeps_of_below HBW4.out)) (his'.stays (keeps_of_below hW4)) hl HOM.out hokb.2.1 hokb.2.2.2.2.2 HC.out HRM.out HFEW.out hrb)
            have hle1 : labE l acts (intoL (mayB l acts) m bs[j]) = 0 := into_labE HC.out HRM.out hrb
            have HOS : Hid (okLab (intoL (mayB l acts) m bs[j])) := okLab_less (okLab_joins HOM.out _ hokb.2.1) _
            have hle2 : labE l acts (goalL m bs[j]) = 0 := by
              unfold goalL
              split
              · exact labE_of HC.out (labErr_of hrb.into.2 hrb.into.1)
              · have hlt' : (bTo bs[j]).toNat < m.length := by have := hrb.hi; omega
                have : atL m (bTo bs[j]) = m[(bTo bs[j]).toNat] := by unfold atL; simp [hlt']
                rw [this]
                exact HLE.out _ (List.getElem_mem hlt')
            have HOZ : Hid (okLab (goalL m bs[j])) := by
              unfold Hid goalL
              split
              · exact hokb.2.2.2.1
              · exact okLab_at HOM.out _
            have HF1 : Hid (flowsE l acts (intoL (mayB l acts) m bs[j]) (goalL m bs[j]) = 0) := flowsE_of hle1 hle2
            have HF2 : Hid (flowsR l acts (intoL (mayB l acts) m bs[j]) (goalL m bs[j]) = flowsB (mayB l acts) (intoL (mayB l acts) m bs[j]) (goalL m bs[j])) := flowsR_of hle1 hle2
            have HBK : Hid (broke (mayB l acts) m bs[j] = !flowsB (mayB l acts) (intoL (mayB l acts) m bs[j]) (goalL m bs[j])) := broke_goal _ _ _
            have HLJ := Lib.hid hlj
            have hle := brokenTo_le (mayB l acts) m bs j
            have HN := HN2.out
            have HSZ : Hid (wi.heap.size ≤ W4.heap.size) := HW4.out.size
            clear m4 z4 hW4 hokb hle1 hle2
            generalize intoL (mayB l acts) m bs[j] = S at *
            -- what is behind both ways into `to`
            have HTAIL : ∀ (w5 w6 : World), True := fun _ _ => trivial
            clear HTAIL
            by_cases t1 : bTo bs[j] < 0
            · have hgl : goalL m bs[j] = bInto bs[j] := by unfold goalL; rw [if_pos t1]
              have HOZ : Hid (okLab (bInto bs[j])) := Eq.mp (congrArg (fun x => Hid (okLab x)) hgl) HOZ
              have HF1 : Hid (flowsE l acts S (bInto bs[j]) = 0) := Eq.mp (congrArg (fun x => Hid (flowsE l acts S x = 0)) hgl) HF1
              have HF2 : Hid (flowsR l acts S (bInto bs[j]) = flowsB (mayB l acts) S (bInto bs[j])) := Eq.mp (congrArg (fun x => Hid (flowsR l acts S x = flowsB (mayB l acts) S x)) hgl) HF2
              have HBK : Hid (broke (mayB l acts) m bs[j] = !flowsB (mayB l acts) S (bInto bs[j])) := Eq.mp (congrArg (fun x => Hid (broke (mayB l acts) m bs[j] = !flowsB (mayB l acts) S x)) hgl) HBK
              have t1' : ¬ (0 : Int) ≤ bTo bs[j] := by omega
              have HI4 := HIN4
              clear hgl hrb his'
              go_wp2_with (fail)
              refine HIC.out.mono ?_
              rintro e w5 ⟨y, rfl, hy, hb5⟩
              obtain ⟨by_, oy, cy, py, rfl, _⟩ := hy.cells
              have HY := Lib.hid hy
              have HB5 := Lib.hid hb5
              have g2 : w5.cell? ⟨wi.heap.size, 2, none⟩ = some (.int .i64 (bTo bs[j])) := (hb5.cell (cell_lt J2.out)).trans J2.out
              have g3 : w5.cell? ⟨wi.heap.size, 3, none⟩ = some (.slice pi_ (bInto bs[j]).length ci) := (hb5.cell (cell_lt J3.out)).trans J3.out
              have HBW5 : Hid (Below w.heap.size w w5) := HBW4.out.trans (hb5.mono HBW4.out.size)
              have HZ5 := Lib.hid (HI4.out.stays (keeps_of_below hb5))
              clear hy hb5 j0 j1 j2 j3 j4 j5 k0 k1 k2 k3 k4 k5
              cases hfl : flowsB (mayB l acts) S (bInto bs[j]) with
              | true =>
                have HFL := Lib.hid hfl
                clear hfl
                go_wp2_with (fail)
                refine (flows_calls l acts S (bInto bs[j]) _ _ _ _ _ (HV.out.stays (keeps_of_below HBW5.out)) (HU.out.stays (keeps_of_below HBW5.out)) HY.out HZ5.out hl HOS.out HOZ.out).mono ?_
                rintro e w6 ⟨rfl, hb6⟩
                rw [HF1.out, HF2.out, HFL.out]
                have HMISS : Hid (brokenTo (mayB l acts) m bs (j + 1) = brokenTo (mayB l acts) m bs j) := brokenTo_miss HLJ.out (HBK.out.trans (congrArg (fun x => !x) HFL.out))
                have HB6 : Hid (Below wi.heap.size wi w6) := HW4.out.trans ((HB5.out.trans (hb6.mono HB5.out.size)).mono HSZ.out)
                clear hb6
                go_wp2
                go_roundw
                case rel =>
                  refine ⟨j + 1, _, _, by omega, by go_num, rfl, rfl, HBI.out.trans (HB6.out.mono HBI.out.size), ?_⟩
                  unfold Hid
                  rw [HMISS.out]
                  exact own_below HOW.out HB6.out
                case measure => simp [intOf]; omega
              | false =>
                have HFL := Lib.hid hfl
                clear hfl
                go_wp2_with (fail)
                refine (flows_calls l acts S (bInto bs[j]) _ _ _ _ _ (HV.out.stays (keeps_of_below HBW5.out)) (HU.out.stays (keeps_of_below HBW5.out)) HY.out HZ5.out hl HOS.out HOZ.out).mono ?_
                rintro e w6 ⟨rfl, hb6⟩
                rw [HF1.out, HF2.out, HFL.out]
                have HHIT : Hid (brokenTo (mayB l acts) m bs (j + 1) = brokenTo (mayB l acts) m bs j ++ [(j : Int)]) := brokenTo_hit HLJ.out (HBK.out.trans (congrArg (fun x => !x) HFL.out))
                have HB6 : Hid (Below wi.heap.size wi w6) := HW4.out.trans ((HB5.out.trans (hb6.mono HB5.out.size)).mono HSZ.out)
                have hown6 := own_below HOW.out HB6.out
                have HBO6 : Hid (Below wo.heap.size wo w6) := HBI.out.trans (HB6.out.mono HBI.out.size)
                have hsz6 := HBO6.out.size
                clear hb6 g2 g3
                go_wp2_with (at_builtin; refine wpList_append_own _ rfl _ _ 53 rfl wo.heap.size 3 t0 (.int .i64 0) 1 8 Tryz.underlying53 hi hz0 hz1 hz2 rfl (by decide) _ _ _ rfl (hown6.alloc _) ⟨w6.heap.size, 0, none⟩ 1 1 [.int .i64 j] rfl rfl ?c1 ?c2 ?c3 ?c4 ?c5 ?_)
                case c1 =>
                  intro i u hj
                  match i, hj with
                  | 0, hj => simp at hj; subst hj; simp [Addr.add]
                case c2 => intro u hu; simp at hu; subst hu; rfl
                case c3 => unfold maxLen; omega
                case c4 => omega
                case c5 => simp; omega
                · intro v' w7 hown' hgrow _
                  go_wp2
                  go_roundw
                  case rel =>
                    refine ⟨j + 1, _, _, by omega, by go_num, rfl, rfl, (HBO6.out.alloc HBO6.out.size _).grown hgrow (by have := HBO6.out.size; simp; omega) (fun q hq => (hown6.lt q hq).1), ?_⟩
                    unfold Hid
                    rw [HHIT.out]
                    simpa using hown'
                  case measure => simp [intOf]; omega
            · obtain ⟨z, hz⟩ : ∃ z : Nat, bTo bs[j] = z := ⟨(bTo bs[j]).toNat, by omega⟩
              have hzl : z < m.length := by have := hrb.hi; omega
              have hgl : goalL m bs[j] = m[z] := by unfold goalL atL; rw [if_neg t1, hz]; simp [hzl]
              have HOZ : Hid (okLab m[z]) := Eq.mp (congrArg (fun x => Hid (okLab x)) hgl) HOZ
              have HF1 : Hid (flowsE l acts S m[z] = 0) := Eq.mp (congrArg (fun x => Hid (flowsE l acts S x = 0)) hgl) HF1
              have HF2 : Hid (flowsR l acts S m[z] = flowsB (mayB l acts) S m[z]) := Eq.mp (congrArg (fun x => Hid (flowsR l acts S x = flowsB (mayB l acts) S x)) hgl) HF2
              have HBK : Hid (broke (mayB l acts) m bs[j] = !flowsB (mayB l acts) S m[z]) := Eq.mp (congrArg (fun x => Hid (broke (mayB l acts) m bs[j] = !flowsB (mayB l acts) S x)) hgl) HBK
              obtain ⟨uz, g0, g1⟩ := HCL.out z hzl
              obtain rfl := HP3.out (by omega)
              have HZ4 := Lib.hid (g1.stays (keeps_of_below HBW4.out))
              have hzz := HZ4.out
              obtain ⟨bz, oz, cz, pz, rfl, _⟩ := hzz.cells
              have HGZ : Hid (W4.cell? ⟨b3, o3 + z, none⟩ = some (.slice pz m[z].length cz)) := (HBW4.out.cell (cell_lt g0)).trans g0
              have hzl' : (z : Int) < (m.length : Int) := by omega
              have hz0' : ¬ (z : Int) < 0 := by omega
              have hz1' : (0 : Int) ≤ (z : Int) := by omega
              have HZZ := Lib.hid hz
              clear hgl hrb his' g0 g1 hzz t1 hz
              go_wp2_with (fail)
              refine HIC.out.mono ?_
              rintro e w5 ⟨y, rfl, hy, hb5⟩
              obtain ⟨by_, oy, cy, py, rfl, _⟩ := hy.cells
              have HY := Lib.hid hy
              have HB5 := Lib.hid hb5
              have g2 : w5.cell? ⟨wi.heap.size, 2, none⟩ = some (.int .i64 z) := by rw [← HZZ.out]; exact (hb5.cell (cell_lt J2.out)).trans J2.out
              have g3 : w5.cell? ⟨wi.heap.size, 3, none⟩ = some (.slice pi_ (bInto bs[j]).length ci) := (hb5.cell (cell_lt J3.out)).trans J3.out
              have gz : w5.cell? ⟨b3, o3 + z, none⟩ = some (.slice pz m[z].length cz) := (hb5.cell (cell_lt HGZ.out)).trans HGZ.out
              have HBW5 : Hid (Below w.heap.size w w5) := HBW4.out.trans (hb5.mono HBW4.out.size)
              have HZ5 := Lib.hid (HZ4.out.stays (keeps_of_below hb5))
              clear hy hb5 j0 j1 j2 j3 j4 j5 k0 k1 k2 k3 k4 k5
              generalize hMZ : m[z] = Z at *
              have HMZ := Lib.hid hMZ
              clear hMZ
              cases hfl : flowsB (mayB l acts) S Z with
              | true =>
                have HFL := Lib.hid hfl
                clear hfl
                go_wp2_with (fail)
                refine (flows_calls l acts S Z _ _ _ _ _ (HV.out.stays (keeps_of_below HBW5.out)) (HU.out.stays (keeps_of_below HBW5.out)) HY.out HZ5.out hl HOS.out HOZ.out).mono ?_
                rintro e w6 ⟨rfl, hb6⟩
                rw [HF1.out, HF2.out, HFL.out]
                have HMISS : Hid (brokenTo (mayB l acts) m bs (j + 1) = brokenTo (mayB l acts) m bs j) := brokenTo_miss HLJ.out (HBK.out.trans (congrArg (fun x => !x) HFL.out))
                have HB6 : Hid (Below wi.heap.size wi w6) := HW4.out.trans ((HB5.out.trans (hb6.mono HB5.out.size)).mono HSZ.out)
                clear hb6
                go_wp2
                go_roundw
                case rel =>
                  refine ⟨j + 1, _, _, by omega, by go_num, rfl, rfl, HBI.out.trans (HB6.out.mono HBI.out.size), ?_⟩
                  unfold Hid
                  rw [HMISS.out]
                  exact own_below HOW.out HB6.out
                case measure => simp [intOf]; omega
              | false =>
                have HFL := Lib.hid hfl
                clear hfl
                go_wp2_with (fail)
                refine (flows_calls l acts S Z _ _ _ _ _ (HV.out.stays (keeps_of_below HBW5.out)) (HU.out.stays (keeps_of_below HBW5.out)) HY.out HZ5.out hl HOS.out HOZ.out).mono ?_
                rintro e w6 ⟨rfl, hb6⟩
                rw [HF1.out, HF2.out, HFL.out]
                have HHIT : Hid (brokenTo (mayB l acts) m bs (j + 1) = brokenTo (mayB l acts) m bs j ++ [(j : Int)]) := brokenTo_hit HLJ.out (HBK.out.trans (congrArg (fun x => !x) HFL.out))
                have HB6 : Hid (Below wi.heap.size wi w6) := HW4.out.trans ((HB5.out.trans (hb6.mono HB5.out.size)).mono HSZ.out)
                have hown6 := own_below HOW.out HB6.out
                have HBO6 : Hid (Below wo.heap.size wo w6) := HBI.out.trans (HB6.out.mono HBI.out.size)
                have hsz6 := HBO6.out.size
                clear hb6 g2 g3 gz
                go_wp2_with (at_builtin; refine wpList_append_own _ rfl _ _ 53 rfl wo.heap.size 3 t0 (.int .i64 0) 1 8 Tryz.underlying53 hi hz0 hz1 hz2 rfl (by decide) _ _ _ rfl (hown6.alloc _) ⟨w6.heap.size, 0, none⟩ 1 1 [.int .i64 j] rfl rfl ?c1 ?c2 ?c3 ?c4 ?c5 ?_)
                case c1 =>
                  intro i u hj
                  match i, hj with
                  | 0, hj => simp at hj; subst hj; simp [Addr.add]
                case c2 => intro u hu; simp at hu; subst hu; rfl
                case c3 => unfold maxLen; omega
                case c4 => omega
                case c5 => simp; omega
                · intro v' w7 hown' hgrow _
                  go_wp2
                  go_roundw
                  case rel =>
                    refine ⟨j + 1, _, _, by omega, by go_num, rfl, rfl, (HBO6.out.alloc HBO6.out.size _).grown hgrow (by have := HBO6.out.size; simp; omega) (fun q hq => (hown6.lt q hq).1), ?_⟩
                    unfold Hid
                    rw [HHIT.out]
                    simpa using hown'
                  case measure => simp [intOf]; omega
          · obtain rfl : j = bs.length := by omega
            clear hj
            go_wp2
            go_ret2
            exact ⟨_, by rw [HX0.out]; rfl, by rw [HXR.out]; exact Nums.of_owns HOW.out, HBW.out⟩
  · have HX : Hid (brokenE l acts m bs = solveE l acts m.length bs ∧ brokenR l acts m bs = []) := by
      have e : brokenE l acts m bs = solveE l acts m.length bs := by unfold brokenE; rw [if_pos he]
      exact ⟨e, by unfold brokenR; rw [e, if_neg he]⟩
    have hq : (solveE l acts m.length bs != 0) = true := by simpa using he
    have hq2 : (solveE l acts m.length bs == 0) = false := by simpa using he
    clear he
    go_enter Tryz.func26, Tryz.ntmps26
    go_wp2_with (fail)
    refine HSC.out.mono ?_
    rintro e w1 ⟨rfl, hb1⟩
    go_wp2
    go_ret2
    exact ⟨_, by rw [HX.out.1]; rfl, by rw [HX.out.2]; exact nil_readsS _ _ _, hb1⟩
end Go.Proofs.YtcgihpfanfbonaaGreatDoor
