/-
  cloisterlaw.LabelNormal: the call returns true.
-/
import Derived.Test.YtcgihpfanfbonaaGreatDoorLN24
import Derived.Test.YtcgihpfanfbonaaGreatDoorLN25
import Derived.Test.YtcgihpfanfbonaaGreatDoorLN22
import Derived.Deep.Cut
import Derived.Deep.RegionHeld3
namespace Go.Proofs.YtcgihpfanfbonaaGreatDoor
open Go.RowKit Go.Maps
set_option linter.unusedVariables false
set_option linter.unusedSimpArgs false

theorem lblsF_one {W : World} {a : Lab} {v : Value} {bk : Nat} (h : Lbl W a v) (hc : W.cell? ⟨bk, 0, none⟩ = some v) : LblsF W [a] (.slice (some ⟨bk, 0, none⟩) 1 1) := by
  refine ⟨_, _, rfl, Nat.le_refl _, by unfold maxLen; decide, Or.inr ⟨_, 0, rfl, fun i hi => ?_⟩⟩
  match i, hi with
  | 0, _ =>
    refine ⟨[v], ⟨v, rfl, h⟩, rfl, fun j x hx => ?_⟩
    match j, hx with
    | 0, hx => simp at hx; subst hx; exact hc
theorem lblsF_two {W : World} {a b : Lab} {v u : Value} {bk : Nat} (h : Lbl W a v) (k : Lbl W b u) (hc : W.cell? ⟨bk, 0, none⟩ = some v) (hd : W.cell? ⟨bk, 1, none⟩ = some u) : LblsF W [a, b] (.slice (some ⟨bk, 0, none⟩) 2 2) := by
  refine ⟨_, _, rfl, Nat.le_refl _, by unfold maxLen; decide, Or.inr ⟨_, 0, rfl, fun i hi => ?_⟩⟩
  match i, hi with
  | 0, _ =>
    refine ⟨[v], ⟨v, rfl, h⟩, rfl, fun j x hx => ?_⟩
    match j, hx with
    | 0, hx => simp at hx; subst hx; exact hc
  | 1, _ =>
    refine ⟨[u], ⟨u, rfl, k⟩, rfl, fun j x hx => ?_⟩
    match j, hx with
    | 0, hx => simp at hx; subst hx; exact hd
theorem notHasF_calls (l : List Txt) (s : Txt) (v : Value) (g : Nat) (w : World) (hv : Strs w l v) (hc : w.cell? ⟨g, 0, none⟩ = some v) :
    Calls Tryz.prog 15 (#[.string s] ++ #[.pointer (some ⟨g, 0, none⟩)]) w fun e w' => e = .returned (.bool (!has l s)) ∧ Below w.heap.size w w' := by
  obtain ⟨b0, o0, c0, p0, rfl, _⟩ := hv.cells
  have HV := Lib.hid hv
  clear hv
  go_enter Tryz.func15, Tryz.ntmps15
  go_wp2_with (fail)
  refine (contains_calls l s _ _ HV.out).mono ?_
  rintro e w1 ⟨rfl, rfl⟩
  go_wp2
  go_ret
  exact ⟨rfl, Below.refl _ _⟩
theorem bal {w W : World} (h : Below w.heap.size w W) (o : Obj) : Below w.heap.size w (W.alloc o) := h.alloc h.size o
theorem bcall {w W V : World} (h : Below w.heap.size w W) (h2 : Below W.heap.size W V) : Below w.heap.size w V := h.trans (h2.mono h.size)
theorem bkept {W V : World} {b o : Nat} {u : Value} (h : Below W.heap.size W V) (hc : W.cell? ⟨b, o, none⟩ = some u) : V.cell? ⟨b, o, none⟩ = some u := (h.cell (cell_lt hc)).trans hc
theorem balloc {B : Nat} {w W : World} (h : Below B w W) (hB : B ≤ w.heap.size) (o : Obj) : Below B w (W.alloc o) := h.alloc (Nat.le_trans hB h.size) o

set_option maxHeartbeats 3000000 in
set_option maxRecDepth 100000 in
theorem labelNormal_calls (l : List Txt) (acts : List (Txt × Txt)) (a b : Lab) (by_ : List Txt) (v u va vb vy : Value) (mx : Int) (w : World) (hv : Strs w l v) (hu : Prs w acts u) (ha : Lbl w a va) (hb : Lbl w b vb) (hy : Strs w by_ vy)
    (hl : okList okTxt l) (ho : okList (okBoth okTxt okTxt) acts) (hao : okLab a) (hbo : okLab b) (hyo : okList okTxt by_) (hm : w.cell? ⟨0, 0, none⟩ = some (.int .i64 mx)) :
    Calls Tryz.prog 3 #[v, u, va, vb, vy] w fun e w' => e = .returned (.bool true) ∧ Below w.heap.size w w' := by
  have hv0 := hv
  have hu0 := hu
  have ha0 := ha
  have hb0 := hb
  have hy0 := hy
  obtain ⟨b0, o0, c0, p0, rfl, _⟩ := hv.cells
  obtain ⟨b1, o1, c1, p1, rfl, _⟩ := hu.cells
  obtain ⟨b2, o2, c2, p2, rfl, _⟩ := ha.cells
  obtain ⟨b3, o3, c3, p3, rfl, _⟩ := hb.cells
  obtain ⟨b4, o4, c4, p4, rfl, _⟩ := hy.cells
  obtain ⟨W1, eW⟩ : ∃ W1, w.alloc (.cells #[.slice p0 l.length c0] 22) = W1 := ⟨_, rfl⟩
  obtain ⟨z1, hW, m1⟩ := boxes1 eW
  have hb1c := m1 0
  simp only [List.getElem?_toArray, List.getElem?_cons_zero] at hb1c
  have KEEP : ∀ W, Below W1.heap.size W1 W → Below w.heap.size w W := fun W h => hW.trans (h.mono hW.size)
  have HKEEP := Lib.hid KEEP
  have HBOX : Hid (∀ W, Below W1.heap.size W1 W → W.cell? ⟨w.heap.size, 0, none⟩ = some (.slice p0 l.length c0)) := fun W h => (h.cell (cell_lt hb1c)).trans hb1c
  have HV : Hid (∀ W, Below W1.heap.size W1 W → Strs W l (.slice p0 l.length c0)) := fun W h => hv0.stays (keeps_of_below (KEEP W h))
  have HU : Hid (∀ W, Below W1.heap.size W1 W → Prs W acts (.slice p1 acts.length c1)) := fun W h => hu0.stays (keeps_of_below (KEEP W h))
  have HA : Hid (∀ W, Below W1.heap.size W1 W → Lbl W a (.slice p2 a.length c2)) := fun W h => ha0.stays (keeps_of_below (KEEP W h))
  have HBB : Hid (∀ W, Below W1.heap.size W1 W → Lbl W b (.slice p3 b.length c3)) := fun W h => hb0.stays (keeps_of_below (KEEP W h))
  have HYY : Hid (∀ W, Below W1.heap.size W1 W → Strs W by_ (.slice p4 by_.length c4)) := fun W h => hy0.stays (keeps_of_below (KEEP W h))
  have HN : Hid (∀ W, Below W1.heap.size W1 W → Calls Tryz.prog 6 #[.slice p0 l.length c0, .slice p1 acts.length c1, .slice p2 a.length c2] W fun e w' => ∃ y, e = .returned (.tuple #[y, .int .i64 (labE l acts a)]) ∧ Lbl w' (normalR l acts a) y ∧ Below W.heap.size W w') := fun W h =>
    normal_calls l acts a _ _ _ W (HV.out W h) (HU.out W h) (HA.out W h) hl hao
  have HJ : Hid (∀ W, Below W1.heap.size W1 W → Calls Tryz.prog 7 #[.slice p0 l.length c0, .slice p1 acts.length c1, .slice p2 a.length c2, .slice p3 b.length c3] W fun e w' => ∃ y, e = .returned (.tuple #[y, .int .i64 (flowsE l acts a b)]) ∧ Lbl w' (joinR l acts a b) y ∧ Below W.heap.size W w') := fun W h =>
    join_lab_calls l acts a b _ _ _ _ W (HV.out W h) (HU.out W h) (HA.out W h) (HBB.out W h) hl hao hbo
  have HLS : Hid (∀ W, Below W1.heap.size W1 W → Calls Tryz.prog 8 #[.slice p0 l.length c0, .slice p1 acts.length c1, .slice p2 a.length c2, .slice p4 by_.length c4] W fun e w' => ∃ y, e = .returned (.tuple #[y, .int .i64 (lessE l acts a by_)]) ∧ Lbl w' (lessR l acts a by_) y ∧ Below W.heap.size W w') := fun W h =>
    less_calls l acts a by_ _ _ _ _ W (HV.out W h) (HU.out W h) (HA.out W h) (HYY.out W h) hl hao hyo
  have HB1L : Hid (∀ W bk, Below W1.heap.size W1 W → W.cell? ⟨bk, 0, none⟩ = some (.slice p2 a.length c2) → Calls Tryz.prog 9 #[.slice p0 l.length c0, .slice p1 acts.length c1, .slice (some ⟨bk, 0, none⟩) 1 1] W fun e w' => e = .returned (.int .i64 (labE l acts a)) ∧ Below W.heap.size W w') := fun W bk h hc => by
    have := badLabels_calls l acts [a] _ _ _ mx W (HV.out W h) (HU.out W h) (lblsF_one (HA.out W h) hc) hl ho (((KEEP W h).cell (cell_lt hm)).trans hm) (by simp)
    rwa [badL_one] at this
  have HB2L : Hid (∀ W bk, Below W1.heap.size W1 W → W.cell? ⟨bk, 0, none⟩ = some (.slice p2 a.length c2) → W.cell? ⟨bk, 1, none⟩ = some (.slice p3 b.length c3) → Calls Tryz.prog 9 #[.slice p0 l.length c0, .slice p1 acts.length c1, .slice (some ⟨bk, 0, none⟩) 2 2] W fun e w' => e = .returned (.int .i64 (flowsE l acts a b)) ∧ Below W.heap.size W w') := fun W bk h hc hd => by
    have := badLabels_calls l acts [a, b] _ _ _ mx W (HV.out W h) (HU.out W h) (lblsF_two (HA.out W h) (HBB.out W h) hc hd) hl ho (((KEEP W h).cell (cell_lt hm)).trans hm) (by simp)
    rwa [badL_two] at this
  have x0 := hb1c
  have HS1 : Hid (W1.heap.size = w.heap.size + 1) := z1
  clear hv hu ha hb hy hv0 hu0 ha0 hb0 hy0 hm hl ho hao hbo hyo m1 hW z1 KEEP hb1c
  go_enter Tryz.func3, Tryz.ntmps3
  go_wp2_with (fail)
  refine (HN.out W1 (Below.refl _ _)).mono ?_
  rintro e w1 ⟨y, rfl, hy1, hb1⟩
  obtain ⟨_, _, cn, pn, rfl, _⟩ := hy1.cells
  have HNL := Lib.hid hy1
  have HB1 := Lib.hid hb1
  have x1 := HBOX.out w1 hb1
  clear x0 hy1 hb1
  go_wp2_with (fail)
  refine (HJ.out w1 HB1.out).mono ?_
  rintro e w2 ⟨y, rfl, hy1, hb1⟩
  obtain ⟨_, _, cj, pj, rfl, _⟩ := hy1.cells
  have HJL := Lib.hid hy1
  have HNL2 := Lib.hid (HNL.out.stays (keeps_of_below hb1))
  have HB2 := Lib.hid (HB1.out.trans (hb1.mono HB1.out.size))
  have x2 := HBOX.out w2 HB2.out
  clear x1 hy1 hb1
  go_wp2_with (fail)
  refine (HLS.out w2 HB2.out).mono ?_
  rintro e w3 ⟨y, rfl, hy1, hb1⟩
  obtain ⟨_, _, cs, ps, rfl, _⟩ := hy1.cells
  have HSL := Lib.hid hy1
  have HNL3 := Lib.hid (HNL2.out.stays (keeps_of_below hb1))
  have HJL3 := Lib.hid (HJL.out.stays (keeps_of_below hb1))
  have HB3 := Lib.hid (HB2.out.trans (hb1.mono HB2.out.size))
  have x3 := HBOX.out w3 HB3.out
  clear x2 hy1 hb1
  go_upto_region 4 with fail
  go_cut [17, 18] from 19 (fun s17 s18 wc => s17 = .int .i64 (labE l acts a) ∧ s18 = .int .i64 (flowsE l acts a b) ∧ Hid (Below w3.heap.size w3 wc))
  case first =>
    have HX : Hid (∀ W, Below w3.heap.size w3 W → W.cell? ⟨w.heap.size, 0, none⟩ = some (.slice p0 l.length c0)) := fun W h => (h.cell (cell_lt x3)).trans x3
    have H31 : Hid (∀ W, Below w3.heap.size w3 W → Below W1.heap.size W1 W) := fun W h => HB3.out.trans (h.mono HB3.out.size)
    have hr0 : Below w3.heap.size w3 w3 := Below.refl _ _
    have bA1 := (bal hr0 (.cells #[.slice p2 a.length c2] 25)).drew
    have bA2 := (bal (bal hr0 (.cells #[.slice p2 a.length c2] 25)) (.cells #[.slice p2 a.length c2, .slice p3 b.length c3] 25)).drew
    have bA3 := (bal (bal hr0 (.cells #[.slice p2 a.length c2, .slice p3 b.length c3] 25)) (.cells #[.slice p2 a.length c2] 25)).drew
    obtain ⟨_, _, m1⟩ := boxes1 (rfl : w3.alloc (.cells #[.slice p2 a.length c2] 25) = _)
    obtain ⟨_, _, m2, n2⟩ := boxes2 (rfl : (w3.alloc (.cells #[.slice p2 a.length c2] 25)).alloc (.cells #[.slice p2 a.length c2, .slice p3 b.length c3] 25) = _)
    obtain ⟨_, _, m3, n3⟩ := boxes2 (rfl : (w3.alloc (.cells #[.slice p2 a.length c2, .slice p3 b.length c3] 25)).alloc (.cells #[.slice p2 a.length c2] 25) = _)
    have q20 : ((w3.alloc (.cells #[.slice p2 a.length c2] 25)).alloc (.cells #[.slice p2 a.length c2, .slice p3 b.length c3] 25)).drew.cell? ⟨w3.heap.size + 1, 0, none⟩ = some (.slice p2 a.length c2) := n2 0
    have q21 : ((w3.alloc (.cells #[.slice p2 a.length c2] 25)).alloc (.cells #[.slice p2 a.length c2, .slice p3 b.length c3] 25)).drew.cell? ⟨w3.heap.size + 1, 1, none⟩ = some (.slice p3 b.length c3) := n2 1
    have q30 : ((w3.alloc (.cells #[.slice p2 a.length c2, .slice p3 b.length c3] 25)).alloc (.cells #[.slice p2 a.length c2] 25)).drew.cell? ⟨w3.heap.size, 0, none⟩ = some (.slice p2 a.length c2) := m3 0
    have q31 : ((w3.alloc (.cells #[.slice p2 a.length c2, .slice p3 b.length c3] 25)).alloc (.cells #[.slice p2 a.length c2] 25)).drew.cell? ⟨w3.heap.size, 1, none⟩ = some (.slice p3 b.length c3) := m3 1
    have HA1 : Hid (Calls Tryz.prog 9 #[.slice p0 l.length c0, .slice p1 acts.length c1, .slice (some ⟨w3.heap.size, 0, none⟩) 1 1] (w3.alloc (.cells #[.slice p2 a.length c2] 25)).drew fun e w' => e = .returned (.int .i64 (labE l acts a)) ∧ Below w3.heap.size w3 w') :=
      (HB1L.out _ w3.heap.size (H31.out _ bA1) (m1 0)).mono fun e w' ⟨h1, h2⟩ => ⟨h1, bcall bA1 h2⟩
    have HA2 : Hid (Calls Tryz.prog 9 #[.slice p0 l.length c0, .slice p1 acts.length c1, .slice (some ⟨w3.heap.size, 0, none⟩) 1 1] ((w3.alloc (.cells #[.slice p2 a.length c2] 25)).alloc (.cells #[.slice p2 a.length c2, .slice p3 b.length c3] 25)).drew fun e w' => e = .returned (.int .i64 (labE l acts a)) ∧ Below w3.heap.size w3 w' ∧
        w'.cell? ⟨w3.heap.size + 1, 0, none⟩ = some (.slice p2 a.length c2) ∧ w'.cell? ⟨w3.heap.size + 1, 1, none⟩ = some (.slice p3 b.length c3)) :=
      (HB1L.out _ w3.heap.size (H31.out _ bA2) (m2 0)).mono fun e w' ⟨h1, h2⟩ => ⟨h1, bcall bA2 h2, bkept h2 q20, bkept h2 q21⟩
    have HA3 : Hid (Calls Tryz.prog 9 #[.slice p0 l.length c0, .slice p1 acts.length c1, .slice (some ⟨w3.heap.size + 1, 0, none⟩) 1 1] ((w3.alloc (.cells #[.slice p2 a.length c2, .slice p3 b.length c3] 25)).alloc (.cells #[.slice p2 a.length c2] 25)).drew fun e w' => e = .returned (.int .i64 (labE l acts a)) ∧ Below w3.heap.size w3 w' ∧
        w'.cell? ⟨w3.heap.size, 0, none⟩ = some (.slice p2 a.length c2) ∧ w'.cell? ⟨w3.heap.size, 1, none⟩ = some (.slice p3 b.length c3)) :=
      (HB1L.out _ (w3.heap.size + 1) (H31.out _ bA3) (n3 0)).mono fun e w' ⟨h1, h2⟩ => ⟨h1, bcall bA3 h2, bkept h2 q30, bkept h2 q31⟩
    have HBB1 : Hid (∀ wa, Below w3.heap.size w3 wa → Calls Tryz.prog 9 #[.slice p0 l.length c0, .slice p1 acts.length c1, .slice (some ⟨wa.heap.size, 0, none⟩) 2 2] (wa.alloc (.cells #[.slice p2 a.length c2, .slice p3 b.length c3] 25)) fun e w' => e = .returned (.int .i64 (flowsE l acts a b)) ∧ Below w3.heap.size w3 w') := fun wa h => by
      obtain ⟨_, _, k1⟩ := boxes1 (rfl : wa.alloc (.cells #[.slice p2 a.length c2, .slice p3 b.length c3] 25) = _)
      exact (HB2L.out _ wa.heap.size (H31.out _ (bal h _)) (k1 0) (k1 1)).mono fun e w' ⟨h1, h2⟩ => ⟨h1, bcall (bal h _) h2⟩
    have HBB2 : Hid (∀ wa bk, Below w3.heap.size w3 wa → wa.cell? ⟨bk, 0, none⟩ = some (.slice p2 a.length c2) → wa.cell? ⟨bk, 1, none⟩ = some (.slice p3 b.length c3) → Calls Tryz.prog 9 #[.slice p0 l.length c0, .slice p1 acts.length c1, .slice (some ⟨bk, 0, none⟩) 2 2] wa fun e w' => e = .returned (.int .i64 (flowsE l acts a b)) ∧ Below w3.heap.size w3 w') := fun wa bk h h1 h2 =>
      (HB2L.out _ bk (H31.out _ h) h1 h2).mono fun e w' ⟨h3, h4⟩ => ⟨h3, bcall h h4⟩
    have s0 := HX.out _ hr0.drew
    have s1 : ∀ o, (w3.alloc o).drew.cell? ⟨w.heap.size, 0, none⟩ = some (.slice p0 l.length c0) := fun o => HX.out _ (bal hr0 o).drew
    have s2 : ∀ o o', ((w3.alloc o).alloc o').drew.cell? ⟨w.heap.size, 0, none⟩ = some (.slice p0 l.length c0) := fun o o' => HX.out _ (bal (bal hr0 o) o').drew
    clear bA1 bA2 bA3 m1 m2 n2 m3 n3 hr0 q20 q21 q30 q31
    go_region_held3 (fun w' => w'.cell? ⟨w.heap.size, 0, none⟩ = some (.slice p0 l.length c0))
      (first | exact s0 | exact s1 _ | exact s2 _ _ | exact sb | exact sa | exact sa1 _)
      (first
        | (go_at_call 9
           with_reducible refine HA1.out.mono ?_
           rintro e wa ⟨rfl, hba⟩
           have sa := HX.out _ hba
           have sa1 := fun o => HX.out _ (bal hba o))
        | (go_at_call 9
           with_reducible refine HA2.out.mono ?_
           rintro e wa ⟨rfl, hba, kc0, kc1⟩
           have sa := HX.out _ hba
           have sa1 := fun o => HX.out _ (bal hba o))
        | (go_at_call 9
           with_reducible refine HA3.out.mono ?_
           rintro e wa ⟨rfl, hba, kc0, kc1⟩
           have sa := HX.out _ hba
           have sa1 := fun o => HX.out _ (bal hba o))
        | (go_at_call 9
           with_reducible refine (HBB1.out wa hba).mono ?_
           rintro e wb ⟨rfl, hbb⟩
           have sb := HX.out _ hbb)
        | (go_at_call 9
           with_reducible refine (HBB2.out wa _ hba kc0 kc1).mono ?_
           rintro e wb ⟨rfl, hbb⟩
           have sb := HX.out _ hbb))
    all_goals (
      go_wp2_with fail
      go_meet
      exact ⟨rfl, rfl, hbb⟩)
  case rest =>
    obtain ⟨rfl, rfl, HB4⟩ := hcut
    have HNL4 := Lib.hid (HNL3.out.stays (keeps_of_below HB4.out))
    have HJL4 := Lib.hid (HJL3.out.stays (keeps_of_below HB4.out))
    have HSL4 := Lib.hid (HSL.out.stays (keeps_of_below HB4.out))
    have HBA := Lib.hid (HB3.out.trans (HB4.out.mono HB3.out.size))
    clear x3
    go_wp2_with (fail)
    refine (labelled_calls _).mono ?_
    rintro e w5 ⟨rfl, hb5⟩
    have HNL5 := Lib.hid (HNL4.out.stays (keeps_of_below hb5))
    have HJL5 := Lib.hid (HJL4.out.stays (keeps_of_below hb5))
    have HSL5 := Lib.hid (HSL4.out.stays (keeps_of_below hb5))
    have HB5 := Lib.hid (HBA.out.trans (hb5.mono HBA.out.size))
    clear hb5
    go_upto_region 7 with fail
    go_cut [83] from 19 (fun s83 wc => s83 = .bool false ∧ Hid (Below w5.heap.size w5 wc))
    case first =>
      by_cases he : labE l acts a = 0
      · have hc := (labE_check he).1
        have hr := right_of he
        have hlen : a.length ≤ 1000000 := by have := (labErr_zero (labE_check he).2).1; omega
        have HRN : Hid (∀ W, Below W1.heap.size W1 W → Calls Tryz.prog 12 #[.slice p1 acts.length c1, .slice p2 a.length c2] W fun e w' => ∃ y, e = .returned y ∧ Lbl w' (normL (mayB l acts) a) y ∧ Below W.heap.size W w') := fun W h =>
          refNormalR_calls hc hr _ _ W (HU.out W h) (HA.out W h) hlen
        have HNR : Hid (normalR l acts a = normL (mayB l acts) a) := by unfold Hid normalR; rw [if_pos he]
        have q1 : (labE l acts a == 0) = true := by simp [he]
        have q2 : (labE l acts a != 0) = false := by simp [he]
        clear hc hr hlen he
        go_wp2_with (fail)
        refine (HRN.out w5 HB5.out).mono ?_
        rintro e w6 ⟨y, rfl, hy1, hb6⟩
        rw [← HNR.out] at hy1
        obtain ⟨_, _, cq, pq, rfl, _⟩ := hy1.cells
        have HSM := Lib.hid (sameLabel_calls _ _ _ w6 (HNL5.out.stays (keeps_of_below hb6)) hy1)
        have HB6 := Lib.hid hb6
        clear hy1 hb6
        go_wp2_with (fail)
        refine HSM.out.mono ?_
        rintro e w7 ⟨rfl, hb7⟩
        have HB7 := Lib.hid (HB6.out.trans (hb7.mono HB6.out.size))
        clear hb7
        go_wp2_with (fail)
        go_meet
        case rel => exact ⟨rfl, HB7⟩
      · have HNR : normalR l acts a = [] := by unfold normalR; rw [if_neg he]
        have q1 : (labE l acts a != 0) = true := by simpa using he
        have q2 : (labE l acts a == 0) = false := by simpa using he
        have q3 : (normalR l acts a).length = 0 := by rw [HNR]; rfl
        clear he HNR
        go_wp2_with (fail)
        go_meet
        case rel => exact ⟨rfl, Below.refl _ _⟩
    case rest =>
      obtain ⟨rfl, HB6⟩ := hcut
      have HJL6 := Lib.hid (HJL5.out.stays (keeps_of_below HB6.out))
      have HSL6 := Lib.hid (HSL5.out.stays (keeps_of_below HB6.out))
      have HB61 := Lib.hid (HB5.out.trans (HB6.out.mono HB5.out.size))
      go_upto_region 9 with fail
      go_cut [105] from 19 (fun s105 wd => s105 = .bool false ∧ Hid (Below wc.heap.size wc wd))
      case first =>
        by_cases he : flowsE l acts a b = 0
        · obtain ⟨ea, eb⟩ := flowsE_zero he
          have hc := (labE_check ea).1
          have hr := (right_of ea).append (right_of eb)
          have hla : a.length ≤ 200 := (labErr_zero (labE_check ea).2).1
          have hlb : b.length ≤ 200 := (labErr_zero (labE_check eb).2).1
          have HRN : Hid (∀ W t, Below W1.heap.size W1 W → Lbl W (a ++ b) t → Calls Tryz.prog 12 #[.slice p1 acts.length c1, t] W fun e w' => ∃ y, e = .returned y ∧ Lbl w' (normL (mayB l acts) (a ++ b)) y ∧ Below W.heap.size W w') := fun W t h ht =>
            refNormalR_calls hc hr _ _ W (HU.out W h) ht (by rw [List.length_append]; omega)
          obtain ⟨W8, eW8⟩ : ∃ W8, wc.alloc (.cells #[.slice p2 a.length c2, .slice p3 b.length c3] 25) = W8 := ⟨_, rfl⟩
          obtain ⟨z8, hW8, m8⟩ := boxes1 eW8
          have HB8 : Hid (Below w5.heap.size w5 W8) := HB6.out.trans (hW8.mono HB6.out.size)
          have HBC : Hid (Below wc.heap.size wc W8) := hW8
          have HB81 : Hid (Below W1.heap.size W1 W8) := HB61.out.trans (hW8.mono HB61.out.size)
          have HCC := Lib.hid (concatL_calls a b _ _ wc.heap.size 0 W8 (HA.out W8 HB81.out) (HBB.out W8 HB81.out) (m8 0) (m8 1) (by omega))
          have HNR : Hid (joinR l acts a b = normL (mayB l acts) (a ++ b)) := by unfold Hid joinR; rw [if_pos he]; rfl
          have q1 : (flowsE l acts a b == 0) = true := by simp [he]
          have q2 : (flowsE l acts a b != 0) = false := by simp [he]
          obtain ⟨ab, hab⟩ : ∃ ab, a ++ b = ab := ⟨_, rfl⟩
          rw [hab] at HRN HCC HNR
          clear hc hr hla hlb he ea eb z8 hW8 m8 hab
          go_wp2_with (fail)
          refine HCC.out.mono ?_
          rintro e w9 ⟨t, rfl, ht, hb9⟩
          obtain ⟨_, _, ct, pt, rfl, _⟩ := ht.cells
          have HB9 := Lib.hid (HBC.out.trans (hb9.mono HBC.out.size))
          have HRN9 := Lib.hid (HRN.out w9 _ (HB81.out.trans (hb9.mono HB81.out.size)) ht)
          clear ht hb9
          go_wp2_with (fail)
          refine HRN9.out.mono ?_
          rintro e w10 ⟨y, rfl, hy1, hb10⟩
          rw [← HNR.out] at hy1
          obtain ⟨_, _, cq, pq, rfl, _⟩ := hy1.cells
          have HB10 := Lib.hid (HB9.out.trans (hb10.mono HB9.out.size))
          have HSM := Lib.hid (sameLabel_calls _ _ _ w10 (HJL6.out.stays (keeps_of_below HB10.out)) hy1)
          clear hy1 hb10
          go_wp2_with (fail)
          refine HSM.out.mono ?_
          rintro e w11 ⟨rfl, hb11⟩
          have HB11 := Lib.hid (HB10.out.trans (hb11.mono HB10.out.size))
          clear hb11
          go_wp2_with (fail)
          go_meet
          case rel => exact ⟨rfl, HB11⟩
        · have HNR : joinR l acts a b = [] := by unfold joinR; rw [if_neg he]
          have q1 : (flowsE l acts a b != 0) = true := by simpa using he
          have q2 : (flowsE l acts a b == 0) = false := by simpa using he
          have q3 : (joinR l acts a b).length = 0 := by rw [HNR]; rfl
          clear he HNR
          go_wp2_with (fail)
          go_meet
          case rel => exact ⟨rfl, Below.refl _ _⟩
      case rest =>
        obtain ⟨rfl, HB7⟩ := hcut
        have HSL7 := Lib.hid (HSL6.out.stays (keeps_of_below HB7.out))
        have HB71 := Lib.hid (HB61.out.trans (HB7.out.mono HB61.out.size))
        have HKB := Lib.hid (HKEEP.out _ HB71.out)
        have x7 := HBOX.out _ HB71.out
        by_cases he : labE l acts a = 0
        · have q1 : (labE l acts a == 0) = true := by simp [he]
          by_cases hn : 6 < by_.length
          · have hnz : 6 < (by_.length : Int) := by omega
            have HG : Hid (lessE l acts a by_ = 2) := by unfold Hid lessE; rw [if_neg (by simp [he]), if_pos hn]
            have HL0 : Hid (lessR l acts a by_ = []) := by unfold Hid lessR; rw [HG.out]; rfl
            have hz : (lessR l acts a by_).length = 0 := by rw [HL0.out]; rfl
            have hg := HG.out
            clear he
            rw [hg]
            go_wp2
            go_ret
            exact ⟨rfl, HKB.out⟩
          · have hnz : ¬ 6 < (by_.length : Int) := by omega
            have HCF : Hid (Calls Tryz.prog 14 #[.slice p4 by_.length c4, .func (.func 15) #[] #[.pointer (some ⟨w.heap.size, 0, none⟩)]] wc fun e w' => e = .returned (.bool (anyBy by_ fun s => !has l s)) ∧ Below wc.heap.size wc w') :=
              containsFunc_calls by_ _ _ _ (fun s => !has l s) wc (HYY.out _ HB71.out) (enters_at Tryz.func15 (by kernel_rfl) rfl) (fun s _ W h => notHasF_calls l s _ w.heap.size W (HV.out W (HB71.out.trans (h.mono HB71.out.size))) (HBOX.out W (HB71.out.trans (h.mono HB71.out.size))))
            by_cases hall : by_.all (has l) = true
            · have hany : anyBy by_ (fun s => !has l s) = false := by
                rw [Bool.eq_false_iff]
                intro h
                obtain ⟨s, hs, h2⟩ := any_iff.1 h
                rw [List.all_eq_true.1 hall s hs] at h2
                cases h2
              have HG : Hid (lessE l acts a by_ = 0) := by unfold Hid lessE; rw [if_neg (by simp [he]), if_neg hn, if_pos hall]
              have HLR : Hid (lessR l acts a by_ = lessL (mayB l acts) a by_) := by unfold Hid lessR; rw [if_pos HG.out]
              have hg := HG.out
              have hla : a.length ≤ 200 := (labErr_zero (labE_check he).2).1
              have HRL : Hid (∀ W, Below W1.heap.size W1 W → Calls Tryz.prog 17 #[.slice p1 acts.length c1, .slice p2 a.length c2, .slice p4 by_.length c4] W fun e w' => ∃ y, e = .returned y ∧ Lbl w' (lessL (mayB l acts) a by_) y ∧ Below W.heap.size W w') := fun W h =>
                refLessR_calls (labE_check he).1 (right_of he) (fun s hs => List.all_eq_true.1 hall s hs) _ _ _ W (HU.out W h) (HA.out W h) (HYY.out W h) (by omega)
              rw [hany] at HCF
              have he0 := he
              clear hall hany he hla
              rw [hg, he0]
              go_wp2_with (fail)
              refine HCF.out.mono ?_
              rintro e w8 ⟨rfl, hb8⟩
              have HB8 := Lib.hid (HB71.out.trans (hb8.mono HB71.out.size))
              have HSL8 := Lib.hid (HSL7.out.stays (keeps_of_below hb8))
              clear hb8 x7
              go_wp2_with (fail)
              refine (HRL.out w8 HB8.out).mono ?_
              rintro e w9 ⟨y, rfl, hy1, hb9⟩
              rw [← HLR.out] at hy1
              obtain ⟨_, _, cq, pq, rfl, _⟩ := hy1.cells
              have HB9 := Lib.hid (HB8.out.trans (hb9.mono HB8.out.size))
              have HSM := Lib.hid (sameLabel_calls _ _ _ w9 (HSL8.out.stays (keeps_of_below hb9)) hy1)
              clear hy1 hb9
              go_wp2_with (fail)
              refine HSM.out.mono ?_
              rintro e w10 ⟨rfl, hb10⟩
              have HB10 := Lib.hid (HKEEP.out _ (HB9.out.trans (hb10.mono HB9.out.size)))
              clear hb10
              go_wp2
              go_ret
              exact ⟨rfl, HB10.out⟩
            · have hany : anyBy by_ (fun s => !has l s) = true := by
                rw [any_iff]
                have h := hall
                rw [List.all_eq_true] at h
                simp only [Classical.not_forall] at h
                obtain ⟨s, hs, h2⟩ := h
                exact ⟨s, hs, by simpa using h2⟩
              have HG : Hid (lessE l acts a by_ = 5) := by unfold Hid lessE; rw [if_neg (by simp [he]), if_neg hn, if_neg hall]
              have HL0 : Hid (lessR l acts a by_ = []) := by unfold Hid lessR; rw [HG.out]; rfl
              have hz : (lessR l acts a by_).length = 0 := by rw [HL0.out]; rfl
              have hg := HG.out
              rw [hany] at HCF
              have he0 := he
              clear hall hany he
              rw [hg, he0]
              go_wp2_with (fail)
              refine HCF.out.mono ?_
              rintro e w8 ⟨rfl, hb8⟩
              have HB8 := Lib.hid (HKEEP.out _ (HB71.out.trans (hb8.mono HB71.out.size)))
              clear hb8 x7
              go_wp2
              go_ret
              exact ⟨rfl, HB8.out⟩
        · have HG : Hid (lessE l acts a by_ = labE l acts a) := by unfold Hid lessE; rw [if_pos he]
          have HL0 : Hid (lessR l acts a by_ = []) := by unfold Hid lessR; rw [HG.out, if_neg he]
          have hz : (lessR l acts a by_).length = 0 := by rw [HL0.out]; rfl
          have q1 : (labE l acts a == 0) = false := by simpa using he
          have q2 : (labE l acts a != 0) = true := by simpa using he
          have hg := HG.out
          clear he
          rw [hg]
          go_wp2
          go_ret
          exact ⟨rfl, HKB.out⟩
end Go.Proofs.YtcgihpfanfbonaaGreatDoor
