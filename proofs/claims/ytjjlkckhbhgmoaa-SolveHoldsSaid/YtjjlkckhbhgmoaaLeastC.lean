/-
  solve.Least: the least labels that hold what goes into them.
-/
import Derived.Test.YtjjlkckhbhgmoaaOuts
import Derived.Test.YtjjlkckhbhgmoaaSolveC
import Derived.Deep.LoopGhost
import Derived.Deep.RegionWith
namespace Go.Proofs.Ytjjlkckhbhgmoaa
open Go.RowKit Go.Maps
set_option linter.unusedVariables false
set_option linter.unusedSimpArgs false

theorem info_label : (Try.prog.info? 25).map (fun i => (i.zero, i.size, i.bytes)) = some (some (.slice none 0 0), 1, 24) := by kernel_rfl

/-- What stands at the head of the outer loop. -/
structure LInv (l : List Txt) (acts : List (Txt × Txt)) (bs : List Bnd) (N : Nat) (w wo : World) (g : Nat) (a : Bool) (m : List Lab) (f : Nat → Value) (k : Nat) : Prop where
  below : Below w.heap.size w wo
  outs : Outs wo g 25 N m f
  ok : ∀ x ∈ m, okLab x
  sound : Sound l acts N bs m
  iter : ∃ j, m = itersM (mayB l acts) bs j (List.replicate N [])
  fuel : a = true → 1 + (N * 192 - sumN (mayB l acts) l m) ≤ k
  done : a = false → HoldsM (mayB l acts) bs m
/-- What stands at the head of the inner loop. -/
structure IInv (l : List Txt) (acts : List (Txt × Txt)) (bs : List Bnd) (N : Nat) (w : World) (g : Nat) (m : List Lab) (wi : World) (a : Bool) (m' : List Lab) (f : Nat → Value) (k : Nat) : Prop where
  below : Below w.heap.size w wi
  outs : Outs wi g 25 N m' f
  ok : ∀ x ∈ m', okLab x
  sound : Sound l acts N bs m'
  eq : m' = roundM (mayB l acts) (bs.take k) m
  no : a = false → m' = m ∧ ∀ j (hj : j < bs.length), j < k → holdsB (mayB l acts) m bs[j] = true
  yes : a = true → sumN (mayB l acts) l m < sumN (mayB l acts) l m'
section
variable {l : List Txt} {acts : List (Txt × Txt)} {bs : List Bnd} {N : Nat} {w wo wi wj : World} {g : Nat} {m m' : List Lab} {a : Bool} {f : Nat → Value} {k : Nat}
theorem LInv.inner (h : LInv l acts bs N w wo g a m f k) : IInv l acts bs N w g m wo false m f 0 :=
  ⟨h.below, h.outs, h.ok, h.sound, rfl, fun _ => ⟨rfl, fun j _ hj => absurd hj (Nat.not_lt_zero _)⟩, fun e => by cases e⟩
/-- A bound that holds. -/
theorem IInv.keep (h : IInv l acts bs N w g m wi a m' f k) (hk : k < bs.length) (hh : holdsB (mayB l acts) m' bs[k] = true) (hb : Below wi.heap.size wi wj) : IInv l acts bs N w g m wj a m' f (k + 1) := by
  refine ⟨h.below.trans (hb.mono h.below.size), h.outs.below hb, h.ok, h.sound, by rw [round_take hk, ← h.eq, stepM_holds hh], fun e => ⟨(h.no e).1, fun j hj hj' => ?_⟩, h.yes⟩
  by_cases ej : j = k
  · subst ej; rw [← (h.no e).1]; exact hh
  · exact (h.no e).2 j hj (by omega)
/-- A bound that does not hold: its label is raised. -/
theorem IInv.raise (h : IInv l acts bs N w g m wi a m' f k) (hl : l.length ≤ 6) (hg : w.heap.size ≤ g) (hk : k < bs.length) (hr : RightB l N bs[k]) {z : Nat} (hz : bTo bs[k] = z) (hzl : z < m'.length)
    (hf : flowsB (mayB l acts) (intoL (mayB l acts) m' bs[k]) m'[z] = false) (hb : Below wi.heap.size wi wj) {v : Value} (hv : Lbl wj (joinL (mayB l acts) m'[z] (intoL (mayB l acts) m' bs[k])) v)
    (hok : okLab (intoL (mayB l acts) m' bs[k])) :
    IInv l acts bs N w g m (wj.setCell ⟨g, z, none⟩ v) true (m'.set z (joinL (mayB l acts) m'[z] (intoL (mayB l acts) m' bs[k]))) (fun j => if j = z then v else f j) (k + 1) := by
  have hat : atL m' (bTo bs[k]) = m'[z] := by unfold atL; rw [hz]; simp [hzl]
  have h0 : ¬ bTo bs[k] < 0 := by omega
  rw [← hat] at hf
  obtain ⟨s1, s2⟩ := h.sound.raise hl (List.getElem_mem hk) hr h0 hf
  have hzt : (bTo bs[k]).toNat = z := by omega
  rw [hzt, hat] at s1 s2
  refine ⟨(h.below.trans (hb.mono h.below.size)).setCell hg _, (h.outs.below hb).set hv, fun x hx => ?_, s1, ?_, fun e => by (cases e), fun _ => ?_⟩
  · rcases List.mem_or_eq_of_mem_set hx with hx | rfl
    · exact h.ok x hx
    · exact okLab_join (h.ok _ (List.getElem_mem hzl)) hok
  · rw [round_take hk, ← h.eq, stepM_raise h0 hf, hzt, hat]
  · cases a with
    | true => exact Nat.lt_trans (h.yes rfl) s2
    | false => rw [← (h.no rfl).1]; exact s2
/-- Behind all bounds. -/
theorem IInv.outer (h : IInv l acts bs N w g m wi a m' f bs.length) (hl : l.length ≤ 6) {f0 : Nat → Value} {w0 : World} {K : Nat} (h0 : LInv l acts bs N w w0 g true m f0 K) : LInv l acts bs N w wi g a m' f (K - 1) ∧ K - 1 < K := by
  have e := h.eq
  rw [List.take_length] at e
  have hfu := h0.fuel rfl
  refine ⟨⟨h.below, h.outs, h.ok, h.sound, ?_, fun ea => ?_, fun ea b hb => ?_⟩, by omega⟩
  · obtain ⟨j, rfl⟩ := h0.iter
    exact ⟨j + 1, e⟩
  · have := h.yes ea
    have := sumN_le hl (mayB l acts) m'
    rw [h.outs.len] at this
    omega
  · obtain ⟨j, hj, rfl⟩ := List.getElem_of_mem hb
    rw [(h.no ea).1]
    exact (h.no ea).2 j hj hj
theorem LInv.solved (h : LInv l acts bs N w wo g false m f k) : SolvedM l acts N bs m := ⟨h.sound.done (h.done rfl), h.iter, round_holds (h.done rfl)⟩
theorem LInv.start {w1 : World} (hb : Below w.heap.size w w1) (l : List Txt) (acts : List (Txt × Txt)) (bs : List Bnd) (N : Nat) :
    LInv l acts bs N w (w1.alloc (.cells (madeCells #[.slice none 0 0] N) 25)) w1.heap.size true (List.replicate N []) (fun _ => .slice none 0 0) (1 + N * 192) :=
  ⟨hb.alloc hb.size _, Outs.start w1 N _, (fun x hx => by rw [List.eq_of_mem_replicate hx]; exact fun p hp => nomatch hp), Sound.start l acts N bs, ⟨0, rfl⟩, (fun _ => by omega), fun e => nomatch e⟩
/-- A right label brought by a bound. -/
theorem into_labE (hc : checkC l acts = 0) (h : RightM l N m') {b : Bnd} (hB : RightB l N b) : labE l acts (intoL (mayB l acts) m' b) = 0 := less_right hc (h.joins _ _ _ hB.lab.1) _ _
end

set_option maxHeartbeats 8000000 in
set_option maxRecDepth 100000 in
theorem least_calls (l : List Txt) (acts : List (Txt × Txt)) (n : Int) (bs : List Bnd) (v u t : Value) (w : World) (hv : Strs w l v) (hu : Prs w acts u) (ht : Bnds w bs t) (hl : okList okTxt l) (ho : okList okBnd bs) :
    Calls Try.prog 13 #[v, u, .int .i64 n, t] w fun e w' => ∃ y m, e = .returned (.tuple #[y, .int .i64 (solveE l acts n bs)]) ∧ Labs w' m y ∧ (∀ x ∈ m, okLab x) ∧ (solveE l acts n bs ≠ 0 → m = []) ∧ (solveE l acts n bs = 0 → SolvedM l acts n.toNat bs m) ∧ Below w.heap.size w w' := by
  have HSC := Lib.hid (solveCheck_calls l acts n bs v u t w hv hu ht)
  obtain ⟨b0, o0, c0, p0, rfl, _⟩ := hv.cells
  obtain ⟨b1, o1, c1, p1, rfl, _⟩ := hu.cells
  obtain ⟨b2, o2, c2, p2, rfl, hlc2, hcm2, hp2, hcells2⟩ := ht.cells
  by_cases he : solveE l acts n bs = 0
  · obtain ⟨hc, hn0, hn1, hn2, hB⟩ := solveE_zero he
    obtain ⟨N, rfl⟩ : ∃ N : Nat, n = N := ⟨n.toNat, by omega⟩
    have hmk := run_make_row' (P := Try.prog) 38 25 (.slice none 0 0) 24 Try.underlying38 info_label rfl .i64 .i64 N (by omega) (by omega)
    have hN : N ≤ 400 := by omega
    have hl6 : l.length ≤ 6 := (checkC_zero hc).1
    have HE := Lib.hid he
    have HC := Lib.hid hc
    have HRB := Lib.hid hB
    have HV := Lib.hid hv
    have HU := Lib.hid hu
    have HCE := Lib.hid hcells2
    have HPP := Lib.hid hp2
    have HOB := Lib.hid ho
    have HN4 := Lib.hid hN
    have HL6 := Lib.hid hl6
    clear he hc hB hv hu ht hcells2 hp2 ho hn0 hn1 hN hl6
    go_enter Try.func13, Try.ntmps13
    go_wp2_with (fail)
    refine HSC.out.mono ?_
    rintro e w1 ⟨rfl, hb1⟩
    rw [HE.out]
    have HL0 := Lib.hid (LInv.start hb1 l acts bs N)
    obtain ⟨W2, eW⟩ : ∃ W2, w1.alloc (.cells (madeCells #[.slice none 0 0] N) 25) = W2 := ⟨_, rfl⟩
    rw [eW] at HL0
    have HG : Hid (w.heap.size ≤ w1.heap.size) := hb1.size
    generalize hg : w1.heap.size = g at *
    clear hb1 HSC
    go_wp2
    go_loopg [12] (1 + N * 192) (fun k ag ws => ∃ (a : Bool) (m : List Lab) (f : Nat → Value) (wo : World), ag = .bool a ∧ wo = ws ∧ Hid (LInv l acts bs N w wo g a m f k))
    case atStart => exact ⟨true, _, _, _, rfl, rfl, HL0.out⟩
    case round =>
      clear HL0
      obtain ⟨a, m, f, wo, rfl, rfl, HI⟩ := hrel
      cases a with
      | false =>
        have HS := Lib.hid HI.out.solved
        go_wp2
        go_ret2
        exact ⟨_, m, by rw [HE.out]; rfl, HI.out.outs.labels HN4.out, HI.out.ok, fun e => absurd HE.out e, fun _ => HS.out, HI.out.below⟩
      | true =>
        go_wp2
        go_loopw [12, 31] (fun ag i ws => ∃ (k : Nat) (a : Bool) (m' : List Lab) (f' : Nat → Value) (wi : World), k ≤ bs.length ∧ ag = .bool a ∧ i = .int .i64 k ∧ wi = ws ∧ Hid (IInv l acts bs N w g m wi a m' f' k)) (fun _ i _ => bs.length - (intOf i).toNat)
        case atStart => exact ⟨0, false, m, f, _, Nat.zero_le _, rfl, rfl, rfl, HI.out.inner⟩
        case round =>
          obtain ⟨k, a, m', f', wi, hk, rfl, rfl, rfl, HJ⟩ := hrel
          by_cases hlt : k < bs.length
          · obtain ⟨x0, x1, x2, x3, x4, x5, his, e0, e1, e2, e3, e4, e5⟩ := HCE.out k hlt
            obtain rfl := HPP.out (by omega)
            have hbw := HJ.out.below
            have his' := his.stays (keeps_of_below hbw)
            have k0 : wi.cell? ⟨b2, o2 + k * 6, none⟩ = some x0 := (hbw.cell (cell_lt e0)).trans e0
            have k1 : wi.cell? ⟨b2, o2 + k * 6 + 1, none⟩ = some x1 := (hbw.cell (cell_lt e1)).trans e1
            have k2 : wi.cell? ⟨b2, o2 + k * 6 + 2, none⟩ = some x2 := (hbw.cell (cell_lt e2)).trans e2
            have k3 : wi.cell? ⟨b2, o2 + k * 6 + 3, none⟩ = some x3 := (hbw.cell (cell_lt e3)).trans e3
            have k4 : wi.cell? ⟨b2, o2 + k * 6 + 4, none⟩ = some x4 := (hbw.cell (cell_lt e4)).trans e4
            have k5 : wi.cell? ⟨b2, o2 + k * 6 + 5, none⟩ = some x5 := (hbw.cell (cell_lt e5)).trans e5
            clear his e0 e1 e2 e3 e4 e5 hbw
            by_cases t1 : bTo bs[k] < 0
            · have hh : holdsB (mayB l acts) m' bs[k] = true := by unfold holdsB; simp [t1]
              have hto := his'.to
              obtain ⟨bf, of_, cf, pf, rfl, _⟩ := his'.from_.cells
              obtain ⟨bl, ol, cl, pl, rfl, _⟩ := his'.lab.cells
              obtain ⟨bi, oi, ci, pi_, rfl, _⟩ := his'.into.cells
              obtain ⟨bo, oo, co, po, rfl, _⟩ := his'.for_.cells
              have hat := his'.at_
              subst hto hat
              obtain ⟨W4, eW4⟩ : ∃ W4, wi.alloc (.cells #[.slice pf (bFrom bs[k]).length cf, .slice pl (bL bs[k]).length cl, .int .i64 (bTo bs[k]), .slice pi_ (bInto bs[k]).length ci, .int .i64 bs[k].2.2.2.2.1, .slice po (bFor bs[k]).length co] 46) = W4 := ⟨_, rfl⟩
              obtain ⟨z4, hW4, m4⟩ := boxes1 eW4
              have j2 := m4 2
              simp only [List.getElem?_toArray, List.getElem?_cons_zero, List.getElem?_cons_succ] at j2
              have HJ4 := Lib.hid (HJ.out.keep hlt hh hW4)
              clear his' hh m4 hW4 z4
              go_wp2
              go_roundw
              case rel => exact ⟨k + 1, a, m', f', _, by omega, rfl, by go_num, rfl, HJ4.out⟩
              case measure => simp [intOf]; omega
            · have hrb := HRB.out _ (List.getElem_mem hlt)
              obtain ⟨z, hz⟩ : ∃ z : Nat, bTo bs[k] = z := ⟨(bTo bs[k]).toNat, by omega⟩
              have hlen := HJ.out.outs.len
              have hzN : z < N := by have := hrb.hi; omega
              have hzl : z < m'.length := by omega
              have hto : x2 = .int .i64 z := by rw [his'.to, hz]
              have hat := his'.at_
              subst hto hat
              obtain ⟨bf, of_, cf, pf, rfl, _⟩ := his'.from_.cells
              obtain ⟨bl, ol, cl, pl, rfl, _⟩ := his'.lab.cells
              obtain ⟨bi, oi, ci, pi_, rfl, _⟩ := his'.into.cells
              obtain ⟨bo, oo, co, po, rfl, _⟩ := his'.for_.cells
              obtain ⟨W4, eW4⟩ : ∃ W4, wi.alloc (.cells #[.slice pf (bFrom bs[k]).length cf, .slice pl (bL bs[k]).length cl, .int .i64 z, .slice pi_ (bInto bs[k]).length ci, .int .i64 bs[k].2.2.2.2.1, .slice po (bFor bs[k]).length co] 46) = W4 := ⟨_, rfl⟩
              obtain ⟨z4, hW4, m4⟩ := boxes1 eW4
              have j0 := m4 0
              have j1 := m4 1
              have j2 := m4 2
              have j3 := m4 3
              have j4 := m4 4
              have j5 := m4 5
              simp only [List.getElem?_toArray, List.getElem?_cons_zero, List.getElem?_cons_succ] at j0 j1 j2 j3 j4 j5
              have J2 := Lib.hid j2
              have HW4 := Lib.hid hW4
              have HBW : Hid (Below w.heap.size w W4) := HJ.out.below.trans (hW4.mono HJ.out.below.size)
              have HO4 := Lib.hid (HJ.out.outs.below hW4)
              have HRM : Hid (RightM l m'.length m') := by unfold Hid; rw [hlen]; exact HJ.out.sound.right
              have HRB' : Hid (RightB l m'.length bs[k]) := by unfold Hid; rw [hlen]; exact hrb
              have hokb := HOB.out _ (List.getElem_mem hlt)
              have HIC := Lib.hid (into_calls l acts m' bs[k] _ _ _ _ _ _ _ _ _ W4 (HV.out.stays (keeps_of_below HBW.out)) (HU.out.stays (keeps_of_below HBW.out)) (HO4.out.labels HN4.out) (his'.stays (keeps_of_below hW4)) hl HJ.out.ok hokb.2.1 hokb.2.2.2.2.2 HC.out HRM.out (fun x hx => by have := HJ.out.sound.few x hx; omega) HRB'.out)
              have hle1 : labE l acts (intoL (mayB l acts) m' bs[k]) = 0 := into_labE HC.out HRM.out HRB'.out
              have hle2 : labE l acts m'[z] = 0 := labE_of HC.out (labErr_of (by have := HJ.out.sound.few _ (List.getElem_mem hzl); omega) (HRM.out.right _ (List.getElem_mem hzl)))
              have HOS : Hid (okLab (intoL (mayB l acts) m' bs[k])) := okLab_less (okLab_joins HJ.out.ok _ hokb.2.1) _
              have HOZ : Hid (okLab m'[z]) := HJ.out.ok _ (List.getElem_mem hzl)
              have HF1 : Hid (flowsE l acts (intoL (mayB l acts) m' bs[k]) m'[z] = 0) := flowsE_of hle1 hle2
              have HF2 : Hid (flowsR l acts (intoL (mayB l acts) m' bs[k]) m'[z] = flowsB (mayB l acts) (intoL (mayB l acts) m' bs[k]) m'[z]) := flowsR_of hle1 hle2
              have HF3 : Hid (flowsE l acts m'[z] (intoL (mayB l acts) m' bs[k]) = 0) := flowsE_of hle2 hle1
              have HF4 : Hid (joinR l acts m'[z] (intoL (mayB l acts) m' bs[k]) = joinL (mayB l acts) m'[z] (intoL (mayB l acts) m' bs[k])) := by unfold Hid joinR; rw [if_pos HF3.out]
              have HZ := Lib.hid hz
              have HH : Hid (holdsB (mayB l acts) m' bs[k] = flowsB (mayB l acts) (intoL (mayB l acts) m' bs[k]) m'[z]) := by
                have hat : atL m' (bTo bs[k]) = m'[z] := by unfold atL; rw [hz]; simp [hzl]
                unfold Hid holdsB
                rw [hat]
                simp [t1]
              have HZL := Lib.hid hzl
              have HRBN := Lib.hid hrb
              have HZV : Hid (Lbl W4 m'[z] (f' z)) := HO4.out.labs z hzl
              have HDONE : Hid (flowsB (mayB l acts) (intoL (mayB l acts) m' bs[k]) m'[z] = false → ∀ w7 y7, Lbl w7 (joinL (mayB l acts) m'[z] (intoL (mayB l acts) m' bs[k])) y7 → Below W4.heap.size W4 w7 →
                  IInv l acts bs N w g m (w7.setCell ⟨g, z, none⟩ y7) true (m'.set z (joinL (mayB l acts) m'[z] (intoL (mayB l acts) m' bs[k]))) (fun j => if j = z then y7 else f' j) (k + 1)) :=
                fun hf w7 y7 hy hb => HJ.out.raise HL6.out HG.out hlt hrb hz hzl hf (HW4.out.trans (hb.mono HW4.out.size)) hy HOS.out
              have hsl := HZV.out
              obtain ⟨bz, oz, cz, pz, hfz, _⟩ := hsl.cells
              have hzl' : (z : Int) < (N : Int) := by omega
              have hz0 : ¬ (z : Int) < 0 := by omega
              have hgc : W4.cell? ⟨g, z, none⟩ = some (f' z) := HO4.out.cell hzN
              rw [hfz] at hgc HZV
              have HGC := Lib.hid hgc
              have HLT := Lib.hid hlt
              clear his' m4 z4 hW4 hokb hle1 hle2 hz hlen hzN hrb hsl hgc t1
              generalize hIS : intoL (mayB l acts) m' bs[k] = S at *
              generalize hMZ : m'[z] = Z at *
              have HIS := Lib.hid hIS
              have HMZ := Lib.hid hMZ
              clear hIS hMZ
              go_wp2_with (fail)
              refine HIC.out.mono ?_
              rintro e w5 ⟨y, rfl, hy, hb5⟩
              obtain ⟨by_, oy, cy, py, rfl, _⟩ := hy.cells
              have HY := Lib.hid hy
              have HB5 := Lib.hid hb5
              have g2 : w5.cell? ⟨wi.heap.size, 2, none⟩ = some (.int .i64 z) := (hb5.cell (cell_lt J2.out)).trans J2.out
              have gz : w5.cell? ⟨g, z, none⟩ = some (.slice pz Z.length cz) := (hb5.cell (cell_lt HGC.out)).trans HGC.out
              have HBW5 : Hid (Below w.heap.size w w5) := HBW.out.trans (hb5.mono HBW.out.size)
              have HZ5 := Lib.hid (HZV.out.stays (keeps_of_below hb5))
              clear hy hb5 j0 j1 j2 j3 j4 j5 k0 k1 k2 k3 k4 k5
              cases hfl : flowsB (mayB l acts) S Z with
              | true =>
                have HFL := Lib.hid hfl
                clear hfl
                go_wp2_with (fail)
                refine (flows_calls l acts S Z _ _ _ _ _ (HV.out.stays (keeps_of_below HBW5.out)) (HU.out.stays (keeps_of_below HBW5.out)) HY.out HZ5.out hl HOS.out HOZ.out).mono ?_
                rintro e w6 ⟨rfl, hb6⟩
                rw [HF1.out, HF2.out, HFL.out]
                have HJ6 := Lib.hid (HJ.out.keep HLT.out (by rw [HH.out, HFL.out]) (HW4.out.trans ((HB5.out.trans (hb6.mono HB5.out.size)).mono HW4.out.size)))
                clear hb6
                go_wp2
                go_roundw
                case rel => exact ⟨k + 1, a, m', f', _, by omega, rfl, by go_num, rfl, HJ6.out⟩
                case measure => simp [intOf]; omega
              | false =>
                have HFL := Lib.hid hfl
                clear hfl
                go_wp2_with (fail)
                refine (flows_calls l acts S Z _ _ _ _ _ (HV.out.stays (keeps_of_below HBW5.out)) (HU.out.stays (keeps_of_below HBW5.out)) HY.out HZ5.out hl HOS.out HOZ.out).mono ?_
                rintro e w6 ⟨rfl, hb6⟩
                rw [HF1.out, HF2.out, HFL.out]
                have HBW6 : Hid (Below w.heap.size w w6) := HBW5.out.trans (hb6.mono HBW5.out.size)
                have h2c : w6.cell? ⟨wi.heap.size, 2, none⟩ = some (.int .i64 z) := (hb6.cell (cell_lt g2)).trans g2
                have hzc : w6.cell? ⟨g, z, none⟩ = some (.slice pz Z.length cz) := (hb6.cell (cell_lt gz)).trans gz
                have HB46 : Hid (Below W4.heap.size W4 w6) := HB5.out.trans (hb6.mono HB5.out.size)
                have HY6 := Lib.hid (HY.out.stays (keeps_of_below hb6))
                have HZ6 := Lib.hid (HZ5.out.stays (keeps_of_below hb6))
                clear hb6 g2 gz
                have HJC : Hid (Calls Try.prog 10 #[.slice p0 l.length c0, .slice p1 acts.length c1, .slice pz Z.length cz, .slice py S.length cy] w6.drew fun e w' => ∃ p7 n7 c7, e = .returned (.tuple #[.slice p7 n7 c7, .int .i64 0]) ∧ Lbl w' (joinL (mayB l acts) Z S) (.slice p7 n7 c7) ∧ Below W4.heap.size W4 w' ∧
                    w'.cell? ⟨wi.heap.size, 2, none⟩ = some (.int .i64 z) ∧ w'.cell? ⟨g, z, none⟩ = some (.slice pz Z.length cz) ∧ w'.frozen? ⟨g, z, none⟩ = false) := by
                  have hd : Below w6.heap.size w6 w6.drew := (Below.refl _ _).drew
                  refine (join_lab_calls l acts Z S _ _ _ _ w6.drew (HV.out.stays (keeps_of_below (HBW6.out.trans (hd.mono HBW6.out.size)))) (HU.out.stays (keeps_of_below (HBW6.out.trans (hd.mono HBW6.out.size)))) (HZ6.out.stays (keeps_of_below hd)) (HY6.out.stays (keeps_of_below hd)) hl HOZ.out HOS.out).mono ?_
                  rintro e w' ⟨y, rfl, hy, hb⟩
                  have hb' : Below w6.heap.size w6 w' := hd.trans hb
                  have hb4 : Below W4.heap.size W4 w' := HB46.out.trans (hb'.mono HB46.out.size)
                  rw [HF3.out]
                  rw [HF4.out] at hy
                  obtain ⟨b7, o7, c7, p7, rfl, _⟩ := hy.cells
                  exact ⟨p7, _, c7, rfl, hy, hb4, (hb'.cell (cell_lt h2c)).trans h2c, (hb'.cell (cell_lt hzc)).trans hzc, (HO4.out.below hb4).row.frozen z⟩
                go_wp2
                go_region_with (go_at_call 10; refine HJC.out.mono ?_; rintro e w7 ⟨p7, n7, c7, rfl, hy7, hb7, h2d, hzd, hfz7⟩)
                all_goals (try go_wp2)
                all_goals go_roundw
                all_goals first
                  | exact ⟨k + 1, true, _, _, _, by omega, rfl, by go_num, rfl, HDONE.out HFL.out _ _ hy7 hb7⟩
                  | (simp [intOf]; omega)
          · obtain rfl : k = bs.length := by omega
            have HO := Lib.hid (HJ.out.outer HL6.out HI.out)
            go_wp2
            go_roundg (gk - 1)
            case measure => exact HO.out.2
            case rel => exact ⟨a, m', f', _, rfl, rfl, HO.out.1⟩
  · have hq : (solveE l acts n bs != 0) = true := by simpa using he
    have hq2 : (solveE l acts n bs == 0) = false := by simpa using he
    have HE := Lib.hid he
    clear he
    go_enter Try.func13, Try.ntmps13
    go_wp2_with (fail)
    refine HSC.out.mono ?_
    rintro e w1 ⟨rfl, hb1⟩
    go_wp2
    go_ret2
    exact ⟨_, [], rfl, nil_readsS _ _ _, (fun x hx => nomatch hx), fun _ => rfl, fun e => absurd e HE.out, hb1⟩
end Go.Proofs.Ytjjlkckhbhgmoaa
