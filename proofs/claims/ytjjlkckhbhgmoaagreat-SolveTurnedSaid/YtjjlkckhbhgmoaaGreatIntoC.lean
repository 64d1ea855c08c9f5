/-
  solve.into: what a bound brings.
-/
import Derived.Test.YtjjlkckhbhgmoaaGreatSolveF
namespace Go.Proofs.YtjjlkckhbhgmoaaGreat
open Go.RowKit Go.Maps
set_option linter.unusedVariables false
set_option linter.unusedSimpArgs false

theorem joins_take {q : Txt → Txt → Bool} {m : List Lab} {s : Lab} {ks : List Int} {i : Nat} (hi : i < ks.length) : joinsL q m s (ks.take (i + 1)) = joinL q (joinsL q m s (ks.take i)) (atL m ks[i]) := by
  unfold joinsL
  rw [List.take_succ_eq_append_getElem hi, List.foldl_append]
  rfl
theorem okLab_join {q : Txt → Txt → Bool} {a b : Lab} (ha : okLab a) (hb : okLab b) : okLab (joinL q a b) := okLab_norm (okLab_append ha hb)
theorem okLab_less {q : Txt → Txt → Bool} {a : Lab} (ha : okLab a) (by_ : List Txt) : okLab (lessL q a by_) := okLab_norm fun p hp => ha p (List.mem_filter.1 hp).1
theorem okLab_at {m : List Lab} (h : ∀ x ∈ m, okLab x) (k : Int) : okLab (atL m k) := by
  unfold atL
  cases e : m[k.toNat]? with
  | none => intro p hp; cases hp
  | some x => exact h x (List.mem_of_getElem? e)
theorem okLab_joins {q : Txt → Txt → Bool} {m : List Lab} (h : ∀ x ∈ m, okLab x) : ∀ (ks : List Int) {s : Lab}, okLab s → okLab (joinsL q m s ks)
  | [], _, hs => hs
  | k :: ks, _, hs => okLab_joins h ks (okLab_join hs (okLab_at h k))
/-- A right bound's labels so far are right. -/
theorem joins_right {l : List Txt} {acts : List (Txt × Txt)} {m : List Lab} (hc : checkC l acts = 0) (hr : RightM l m.length m) {s : Lab} (hs : RightL l s) (hs2 : s.length ≤ 200) (ks : List Int) : labE l acts (joinsL (mayB l acts) m s ks) = 0 ∧ RightL l (joinsL (mayB l acts) m s ks) := by
  have h1 := hr.joins (mayB l acts) ks s hs
  refine ⟨?_, h1⟩
  rcases List.eq_nil_or_concat ks with rfl | ⟨L, k, rfl⟩
  · exact labE_of hc (labErr_of hs2 hs)
  · have e : joinsL (mayB l acts) m s (L.concat k) = joinL (mayB l acts) (joinsL (mayB l acts) m s L) (atL m k) := by
      unfold joinsL
      rw [List.concat_eq_append, List.foldl_append]
      rfl
    rw [e]
    exact norm_right hc ((hr.joins _ L s hs).append (hr.at k)) _

set_option maxHeartbeats 4000000 in
set_option maxRecDepth 100000 in
theorem into_calls (l : List Txt) (acts : List (Txt × Txt)) (m : List Lab) (b : Bnd) (v u t x0 x1 x2 x3 x4 x5 : Value) (w : World) (hv : Strs w l v) (hu : Prs w acts u) (ht : Labs w m t) (hb : BndIs w b x0 x1 x2 x3 x4 x5)
    (hl : okList okTxt l) (hm : ∀ x ∈ m, okLab x) (hbL : okLab (bL b)) (hbF : okList okTxt (bFor b)) (hc : checkC l acts = 0) (hr : RightM l m.length m) (hm2 : ∀ x ∈ m, x.length ≤ 200) (hB : RightB l m.length b) :
    Calls Tryz.prog 12 #[v, u, t, .agg #[x0, x1, x2, x3, x4, x5]] w fun e w' => ∃ y, e = .returned y ∧ Lbl w' (intoL (mayB l acts) m b) y ∧ Below w.heap.size w w' := by
  obtain ⟨b0, o0, c0, p0, rfl, _⟩ := hv.cells
  obtain ⟨b1, o1, c1, p1, rfl, _⟩ := hu.cells
  obtain ⟨b2, o2, c2, p2, rfl, hlc2, hcm2, hp2, hcells2⟩ := ht.cells
  have hfr := hb.from_
  have hla := hb.lab
  have hto := hb.to
  have hin := hb.into
  have hat := hb.at_
  have hfo := hb.for_
  clear hb
  subst hto hat
  obtain ⟨bf, of_, cf, pf, rfl, hlcf, hcf, hpf, hcellsf⟩ := hfr.cells
  obtain ⟨bl, ol, cl, pl, rfl, _⟩ := hla.cells
  obtain ⟨bi, oi, ci, pi_, rfl, _⟩ := hin.cells
  obtain ⟨bo, oo, co, po, rfl, _⟩ := hfo.cells
  obtain ⟨W1, eW⟩ : ∃ W1, w.alloc (.cells #[.slice pf (bFrom b).length cf, .slice pl (bL b).length cl, .int .i64 (bTo b), .slice pi_ (bInto b).length ci, .int .i64 b.2.2.2.2.1, .slice po (bFor b).length co] 35) = W1 := ⟨_, rfl⟩
  obtain ⟨z1, hW, m1⟩ := boxes1 eW
  have j0 := m1 0
  have j1 := m1 1
  have j5 := m1 5
  simp only [List.getElem?_toArray, List.getElem?_cons_zero, List.getElem?_cons_succ] at j0 j1 j5
  have HW := Lib.hid hW
  have J5 := Lib.hid j5
  have HV := Lib.hid (hv.stays (keeps_of_below hW))
  have HU := Lib.hid (hu.stays (keeps_of_below hW))
  have HLA := Lib.hid (hla.stays (keeps_of_below hW))
  have HFO := Lib.hid (hfo.stays (keeps_of_below hW))
  have HC2 : Hid (∀ (i : Nat) (h : i < m.length), ∃ u, W1.cell? ⟨b2, o2 + i, none⟩ = some u ∧ Lbl W1 m[i] u) := fun i h => by
    obtain ⟨u, h1, h2⟩ := hcells2 i h
    exact ⟨u, (hW.cell (cell_lt h1)).trans h1, h2.stays (keeps_of_below hW)⟩
  have HCF : Hid (∀ (i : Nat) (h : i < (bFrom b).length), W1.cell? ⟨bf, of_ + i, none⟩ = some (.int .i64 (bFrom b)[i])) := fun i h => (hW.cell (cell_lt (hcellsf i h))).trans (hcellsf i h)
  have HP2 := Lib.hid hp2
  have HPF := Lib.hid hpf
  have HLC := Lib.hid hc
  have HRM := Lib.hid hr
  have HM2 := Lib.hid hm2
  have HOM := Lib.hid hm
  have HRB := Lib.hid hB
  have HOL := Lib.hid hbL
  clear m1 hW z1 hv hu ht hcells2 hp2 hcellsf hpf hfr hla hin hfo hc hr hm2 hm hB hbL
  go_enter Tryz.func12, Tryz.ntmps12
  go_wp2
  go_loopw [9, 17] (fun s i ws => ∃ (k : Nat) (wo : World) (sv : Value), k ≤ (bFrom b).length ∧ i = .int .i64 k ∧ wo = ws ∧ sv = s ∧ Below W1.heap.size W1 wo ∧ Hid (Lbl wo (joinsL (mayB l acts) m (bL b) ((bFrom b).take k)) sv)) (fun _ i _ => (bFrom b).length - (intOf i).toNat)
  case atStart => exact ⟨0, _, _, Nat.zero_le _, rfl, rfl, rfl, Below.refl _ _, HLA.out⟩
  case round =>
    clear j0 j1 j5
    obtain ⟨k, wo, sv, hk, rfl, rfl, rfl, hbr, HS⟩ := hrel
    have HBR := Lib.hid hbr
    have hs := HS.out
    obtain ⟨bs, os, cs, ps, rfl, _⟩ := hs.cells
    clear hs
    obtain ⟨r1, r2⟩ := joins_right (acts := acts) HLC.out HRM.out HRB.out.lab.1 HRB.out.lab.2 ((bFrom b).take k)
    have HR1 := Lib.hid r1
    have HOS : Hid (okLab (joinsL (mayB l acts) m (bL b) ((bFrom b).take k))) := okLab_joins HOM.out _ HOL.out
    clear r1 r2
    by_cases hlt : k < (bFrom b).length
    · have g0 := HCF.out k hlt
      have g0' : wo.cell? ⟨bf, of_ + k, none⟩ = some (.int .i64 (bFrom b)[k]) := (hbr.cell (cell_lt g0)).trans g0
      obtain rfl := HPF.out (by omega)
      obtain ⟨f1, f2⟩ := HRB.out.from_ _ (List.getElem_mem hlt)
      obtain ⟨z, hz⟩ : ∃ z : Nat, (bFrom b)[k] = z := ⟨(bFrom b)[k].toNat, by omega⟩
      have hzl : z < m.length := by omega
      have hat2 : atL m (bFrom b)[k] = m[z] := by unfold atL; rw [hz]; simp [hzl]
      have HJ : Hid (joinsL (mayB l acts) m (bL b) ((bFrom b).take (k + 1)) = joinL (mayB l acts) (joinsL (mayB l acts) m (bL b) ((bFrom b).take k)) m[z]) := by unfold Hid; rw [joins_take hlt, hat2]
      obtain ⟨uz, hz1, hz2⟩ := HC2.out z hzl
      have hz1' : wo.cell? ⟨b2, o2 + z, none⟩ = some uz := (hbr.cell (cell_lt hz1)).trans hz1
      obtain rfl := HP2.out (by omega)
      have hz3 := hz2.stays (keeps_of_below hbr)
      obtain ⟨bz, oz, cz, pz, rfl, _⟩ := hz3.cells
      have e2 : labE l acts m[z] = 0 := labE_of HLC.out (labErr_of (HM2.out _ (List.getElem_mem hzl)) (HRM.out.right _ (List.getElem_mem hzl)))
      have HE : Hid (flowsE l acts (joinsL (mayB l acts) m (bL b) ((bFrom b).take k)) m[z] = 0) := flowsE_of HR1.out e2
      have HZ3 := Lib.hid hz3
      have HJR : Hid (joinR l acts (joinsL (mayB l acts) m (bL b) ((bFrom b).take k)) m[z] = joinL (mayB l acts) (joinsL (mayB l acts) m (bL b) ((bFrom b).take k)) m[z]) := by unfold Hid joinR; rw [if_pos HE.out]
      have HOZ : Hid (okLab m[z]) := HOM.out _ (List.getElem_mem hzl)
      rw [hz] at g0'
      have hzl' : (z : Int) < (m.length : Int) := by omega
      clear f1 f2 hz hat2 hz1 hz2 hz3 e2 g0 hbr
      go_wp2_with (fail)
      refine (join_lab_calls l acts _ m[z] _ _ _ _ _ (HV.out.stays (keeps_of_below HBR.out)) (HU.out.stays (keeps_of_below HBR.out)) HS.out HZ3.out hl HOS.out HOZ.out).mono ?_
      rintro e w5 ⟨y, rfl, hy, hb5⟩
      rw [HE.out]
      rw [HJR.out] at hy
      obtain ⟨by_, oy, cy, py, rfl, _⟩ := hy.cells
      have HY := Lib.hid hy
      have HB5 := Lib.hid (HBR.out.trans (hb5.mono HBR.out.size))
      clear hy hb5
      go_wp2
      go_roundw
      case rel => exact ⟨k + 1, _, _, by omega, by go_num, rfl, rfl, HB5.out, by unfold Hid; rw [HJ.out]; exact HY.out⟩
      case measure => simp [intOf]; omega
    · obtain rfl : k = (bFrom b).length := by omega
      have hq5 : wo.cell? ⟨w.heap.size, 5, none⟩ = some (.slice po (bFor b).length co) := (hbr.cell (cell_lt J5.out)).trans J5.out
      have hJ : joinsL (mayB l acts) m (bL b) ((bFrom b).take (bFrom b).length) = joinsL (mayB l acts) m (bL b) (bFrom b) := by rw [List.take_length]
      rw [hJ] at HS HR1 HOS ⊢
      have HE : Hid (lessE l acts (joinsL (mayB l acts) m (bL b) (bFrom b)) (bFor b) = 0) := lessE_of HR1.out HRB.out.for_.1 HRB.out.for_.2
      have HLR : Hid (lessR l acts (joinsL (mayB l acts) m (bL b) (bFrom b)) (bFor b) = intoL (mayB l acts) m b) := by unfold Hid lessR; rw [if_pos HE.out]; rfl
      clear hbr hJ
      go_wp2_with (fail)
      refine (less_calls l acts _ (bFor b) _ _ _ _ _ (HV.out.stays (keeps_of_below HBR.out)) (HU.out.stays (keeps_of_below HBR.out)) HS.out (HFO.out.stays (keeps_of_below HBR.out)) hl HOS.out hbF).mono ?_
      rintro e w5 ⟨y, rfl, hy, hb5⟩
      rw [HE.out]
      rw [HLR.out] at hy
      obtain ⟨by_, oy, cy, py, rfl, _⟩ := hy.cells
      have HY := Lib.hid hy
      have HB5 : Hid (Below w.heap.size w w5) := HW.out.trans ((HBR.out.trans (hb5.mono HBR.out.size)).mono HW.out.size)
      clear hy hb5
      go_wp2
      go_ret
      exact ⟨_, rfl, HY.out, HB5.out⟩
end Go.Proofs.YtjjlkckhbhgmoaaGreat
