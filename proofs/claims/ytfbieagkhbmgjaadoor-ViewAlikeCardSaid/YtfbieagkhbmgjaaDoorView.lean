/-
  view.Sees and view.Seen: what somebody sees.
-/
import Derived.Test.YtfbieagkhbmgjaaDoorLabE
namespace Go.Proofs.YtfbieagkhbmgjaaDoor
open Go.RowKit Go.Maps
set_option linter.unusedVariables false
set_option linter.unusedSimpArgs false

/-- An event: its channel, its number, its label. -/
abbrev Evt := Txt × Int × Lab
def evt : Enc Evt := Both txt (Both num (Sl pol 2))
theorem evt_stays : Stays evt := Both.stays (One.stays _) (Both.stays (One.stays _) (Sl.stays pol_stays 2))
/-- `[]api.Event`. -/
abbrev Evs (w : World) (l : List Evt) (v : Value) : Prop := SliceOf evt 3 w l v
theorem Evs.stays {w w' : World} (hk : Keeps w w') {l : List Evt} {v : Value} (h : Evs w l v) : Evs w' l v := SliceOf.stays evt_stays hk h
def okEvt : Evt → Prop := okBoth okTxt (okBoth okNum okLab)
def szEvt : Evt → Nat := szBoth szTxt (szBoth szOne (szList szPol))
theorem rdEvt : Rd Tryd.prog 52 evt okEvt szEvt :=
  Rd.struct (tot := 3) Tryd.underlying52 (by kernel_rfl) (Rdf.cons (k := 1) (o' := 1) rfl rfl (by kernel_rfl) rfl (Rd.txt Tryd.underlying9) (Rdf.cons (k := 1) (o' := 2) rfl rfl (by kernel_rfl) rfl (Rd.num Tryd.underlying3) (Rdf.last (k := 1) rfl rfl (by kernel_rfl) rdLabel)))
theorem rdEvents : Rd Tryd.prog 43 (Sl evt 3) (okList okEvt) (szList szEvt) := Rd.slice Tryd.underlying43 (by decide) (by kernel_rfl) rdEvt
theorem Evs.cells {w : World} {l : List Evt} {v : Value} (h : Evs w l v) :
    ∃ b o c p, v = .slice p l.length c ∧ l.length ≤ c ∧ c ≤ 9223372036854775807 ∧ (0 < l.length → p = some ⟨b, o, none⟩) ∧
      ∀ (i : Nat) (h : i < l.length), ∃ u, w.cell? ⟨b, o + i * 3, none⟩ = some (.string l[i].1) ∧ w.cell? ⟨b, o + i * 3 + 1, none⟩ = some (.int .i64 l[i].2.1) ∧ w.cell? ⟨b, o + i * 3 + 2, none⟩ = some u ∧ Lbl w l[i].2.2 u := by
  obtain ⟨p, c, e, h1, h2, h3⟩ := h
  unfold maxLen at h2
  rcases h3 with rfl | ⟨b, o, hp, h3⟩
  · exact ⟨0, 0, c, p, e, h1, by omega, fun h => absurd h (by simp), fun i h => absurd h (by simp)⟩
  · refine ⟨b, o, c, p, e, h1, by omega, fun _ => hp, fun i hi => ?_⟩
    obtain ⟨vs, ⟨us, us', e1, e2, ⟨us2, us3, e4, e5, ⟨u, e6, e7⟩⟩⟩, g2, g3⟩ := h3 i hi
    have e2' : us = [.string l[i].1] := e2
    have e5' : us2 = [.int .i64 l[i].2.1] := e5
    subst e2' e5' e6 e4 e1
    exact ⟨u, by simpa using g3 0 _ rfl, by simpa using g3 1 _ rfl, by simpa using g3 2 _ rfl, e7⟩

def seesE (l : List Txt) (acts : List (Txt × Txt)) (who : Txt) (x : Lab) : Int := if labE l acts x ≠ 0 then labE l acts x else if has l who then 0 else 5
def seesB (l : List Txt) (acts : List (Txt × Txt)) (who : Txt) (x : Lab) : Bool := seesE l acts who x == 0 && has (readsR l acts x) who

theorem sees_calls (l : List Txt) (acts : List (Txt × Txt)) (who : Txt) (x : Lab) (v u t : Value) (w : World) (hv : Strs w l v) (hu : Prs w acts u) (ht : Lbl w x t) (hl : okList okTxt l) (hxo : okLab x) :
    Calls Tryd.prog 30 #[v, u, .string who, t] w fun e w' => e = .returned (.tuple #[.bool (seesB l acts who x), .int .i64 (seesE l acts who x)]) ∧ Below w.heap.size w w' := by
  obtain ⟨b0, o0, c0, p0, rfl, _⟩ := hv.cells
  obtain ⟨b1, o1, c1, p1, rfl, _⟩ := hu.cells
  obtain ⟨b2, o2, c2, p2, rfl, _⟩ := ht.cells
  by_cases he : labE l acts x = 0
  · cases hw : has l who with
    | true =>
      have HE : Hid (seesE l acts who x = 0 ∧ seesB l acts who x = has (readsR l acts x) who) := by
        have e : seesE l acts who x = 0 := by unfold seesE; rw [if_neg (by omega), hw]; rfl
        exact ⟨e, by unfold seesB; rw [e]; rfl⟩
      go_enter Tryd.func30, Tryd.ntmps30
      go_wp2_with (fail)
      refine (reads_calls l acts x _ _ _ _ hv hu ht hl hxo).mono ?_
      rintro e w1 ⟨y, rfl, hy, hb1⟩
      rw [he]
      clear he
      have HY := Lib.hid hy
      obtain ⟨b3, o3, c3, p3, rfl, _⟩ := HY.out.cells
      clear hy
      go_wp2_with (fail)
      refine (contains_calls l who _ _ (hv.stays (keeps_of_below hb1))).mono ?_
      rintro e w2 ⟨rfl, rfl⟩
      rw [hw]
      clear hw
      go_wp2_with (fail)
      refine (contains_calls _ who _ _ HY.out).mono ?_
      rintro e w2 ⟨rfl, rfl⟩
      go_wp2
      go_ret2
      exact ⟨by rw [HE.out.1, HE.out.2]; rfl, hb1⟩
    | false =>
      have HE : Hid (seesE l acts who x = 5 ∧ seesB l acts who x = false) := by
        have e : seesE l acts who x = 5 := by unfold seesE; rw [if_neg (by omega), hw]; rfl
        exact ⟨e, by unfold seesB; rw [e]; rfl⟩
      go_enter Tryd.func30, Tryd.ntmps30
      go_wp2_with (fail)
      refine (reads_calls l acts x _ _ _ _ hv hu ht hl hxo).mono ?_
      rintro e w1 ⟨y, rfl, hy, hb1⟩
      rw [he]
      clear he hy
      go_wp2_with (fail)
      refine (contains_calls l who _ _ (hv.stays (keeps_of_below hb1))).mono ?_
      rintro e w2 ⟨rfl, rfl⟩
      rw [hw]
      clear hw
      go_wp2
      go_ret2
      exact ⟨by rw [HE.out.1, HE.out.2]; rfl, hb1⟩
  · have HE : Hid (seesE l acts who x = labE l acts x ∧ seesB l acts who x = false) := by
      have e : seesE l acts who x = labE l acts x := by unfold seesE; rw [if_pos he]
      exact ⟨e, by unfold seesB; rw [e]; simp [he]⟩
    have hq : (labE l acts x != 0) = true := by simpa using he
    have hq2 : (labE l acts x == 0) = false := by simpa using he
    clear he
    go_enter Tryd.func30, Tryd.ntmps30
    go_wp2_with (fail)
    refine (reads_calls l acts x _ _ _ _ hv hu ht hl hxo).mono ?_
    rintro e w1 ⟨y, rfl, hy, hb1⟩
    clear hy
    go_wp2
    go_ret2
    exact ⟨by rw [HE.out.1, HE.out.2]; rfl, hb1⟩

theorem seenF_calls (l : List Txt) (acts : List (Txt × Txt)) (who : Txt) (x : Evt) (v u t : Value) (g1 g2 g3 : Nat) (w : World) (hv : Strs w l v) (hu : Prs w acts u) (ht : Lbl w x.2.2 t) (hl : okList okTxt l) (hxo : okLab x.2.2)
    (h1 : w.cell? ⟨g1, 0, none⟩ = some v) (h2 : w.cell? ⟨g2, 0, none⟩ = some u) (h3 : w.cell? ⟨g3, 0, none⟩ = some (.string who)) :
    Calls Tryd.prog 45 #[.agg #[.string x.1, .int .i64 x.2.1, t], .pointer (some ⟨g1, 0, none⟩), .pointer (some ⟨g2, 0, none⟩), .pointer (some ⟨g3, 0, none⟩)] w fun e w' => e = .returned (.tuple #[.bool (seesB l acts who x.2.2), .int .i64 (seesE l acts who x.2.2)]) ∧ Below w.heap.size w w' := by
  obtain ⟨ch, n, lb⟩ := x
  obtain ⟨b0, o0, c0, p0, rfl, _⟩ := hv.cells
  obtain ⟨b1, o1, c1, p1, rfl, _⟩ := hu.cells
  obtain ⟨b2, o2, c2, p2, rfl, _⟩ := ht.cells
  obtain ⟨W1, eW⟩ : ∃ W1, w.alloc (.cells #[.string ch, .int .i64 n, .slice p2 lb.length c2] 52) = W1 := ⟨_, rfl⟩
  obtain ⟨z1, hW, m1⟩ := boxes1 eW
  have HW := Lib.hid hW
  have hc1 := m1 0
  have hc2 := m1 1
  have hc3 := m1 2
  simp only [List.getElem?_toArray, List.getElem?_cons_zero, List.getElem?_cons_succ] at hc1 hc2 hc3
  have k1 : W1.cell? ⟨g1, 0, none⟩ = some (.slice p0 l.length c0) := (hW.cell (cell_lt h1)).trans h1
  have k2 : W1.cell? ⟨g2, 0, none⟩ = some (.slice p1 acts.length c1) := (hW.cell (cell_lt h2)).trans h2
  have k3 : W1.cell? ⟨g3, 0, none⟩ = some (.string who) := (hW.cell (cell_lt h3)).trans h3
  clear m1 hW z1 h1 h2 h3
  go_enter Tryd.func45, Tryd.ntmps45
  go_wp2_with (fail)
  refine (sees_calls l acts who lb _ _ _ _ (hv.stays (keeps_of_below HW.out)) (hu.stays (keeps_of_below HW.out)) (ht.stays (keeps_of_below HW.out)) hl hxo).mono ?_
  rintro e w1 ⟨rfl, hb⟩
  go_wp2
  go_ret2
  exact ⟨rfl, HW.out.trans (hb.mono HW.out.size)⟩

theorem Tryd.info_event : (Tryd.prog.info? 52).map (fun i => (i.zero, i.size, i.bytes)) = some (some (.agg #[.string ByteArray.empty, .int .i64 0, .slice none 0 0]), 3, 48) := by kernel_rfl

/-- An event without its label. -/
def bareEv (x : Evt) : Evt := (x.1, x.2.1, [])
def evCells (x : Evt) : List Value := [.string x.1, .int .i64 x.2.1, .slice none 0 0]
/-- What is seen of the first ones. -/
def seenTo (l : List Txt) (acts : List (Txt × Txt)) (who : Txt) (x : List Evt) (k : Nat) : List Evt := ((x.take k).filter fun e => seesB l acts who e.2.2).map bareEv
theorem seenTo_hit {l : List Txt} {acts : List (Txt × Txt)} {who : Txt} {x : List Evt} {k : Nat} (hk : k < x.length) (h : seesB l acts who x[k].2.2 = true) : seenTo l acts who x (k + 1) = seenTo l acts who x k ++ [bareEv x[k]] := by
  unfold seenTo; rw [List.take_succ_eq_append_getElem hk, List.filter_append, List.map_append]; simp [h]
theorem seenTo_miss {l : List Txt} {acts : List (Txt × Txt)} {who : Txt} {x : List Evt} {k : Nat} (hk : k < x.length) (h : seesB l acts who x[k].2.2 = false) : seenTo l acts who x (k + 1) = seenTo l acts who x k := by
  unfold seenTo; rw [List.take_succ_eq_append_getElem hk, List.filter_append, List.map_append]; simp [h]
theorem seenTo_le (l : List Txt) (acts : List (Txt × Txt)) (who : Txt) (x : List Evt) (k : Nat) : (seenTo l acts who x k).length ≤ k := by
  unfold seenTo; rw [List.length_map]; exact Nat.le_trans (List.length_filter_le _ _) (List.length_take_le _ _)
theorem ev_rows (w : World) : ∀ x : List Evt, Rows evt 3 w (x.map bareEv) (x.flatMap evCells)
  | [] => rfl
  | y :: x => ⟨evCells y, x.flatMap evCells, rfl, ⟨[.string y.1], [.int .i64 y.2.1, .slice none 0 0], rfl, rfl, ⟨[.int .i64 y.2.1], [.slice none 0 0], rfl, rfl, ⟨_, rfl, ⟨none, 0, rfl, Nat.le_refl _, by unfold maxLen; omega, Or.inl rfl⟩⟩⟩⟩, rfl, ev_rows w x⟩
/-- What is wrong with the first event with whose label something is. -/
def evErr (l : List Txt) (acts : List (Txt × Txt)) (who : Txt) (x : List Evt) : Int := (x.find? fun e => seesE l acts who e.2.2 != 0).elim 0 fun e => seesE l acts who e.2.2
def seenE (l : List Txt) (acts : List (Txt × Txt)) (who : Txt) (x : List Evt) : Int := if 3000 < x.length then 2 else if seesE l acts who [] ≠ 0 then seesE l acts who [] else evErr l acts who x
def seenR (l : List Txt) (acts : List (Txt × Txt)) (who : Txt) (x : List Evt) : List Evt := if seenE l acts who x = 0 then seenTo l acts who x x.length else []
theorem evErr_at {l : List Txt} {acts : List (Txt × Txt)} {who : Txt} {x : List Evt} {k : Nat} (hk : k < x.length) (h : seesE l acts who x[k].2.2 ≠ 0) (hne : ∀ j (hj : j < x.length), j < k → seesE l acts who x[j].2.2 = 0) : evErr l acts who x = seesE l acts who x[k].2.2 := by
  unfold evErr
  have : x.find? (fun e => seesE l acts who e.2.2 != 0) = some x[k] := by
    rw [List.find?_eq_some_iff_getElem]
    exact ⟨by simpa using h, k, hk, rfl, fun j hj => by simp [hne j (by omega) hj]⟩
  rw [this]; rfl
theorem evErr_none {l : List Txt} {acts : List (Txt × Txt)} {who : Txt} {x : List Evt} (hne : ∀ j (hj : j < x.length), seesE l acts who x[j].2.2 = 0) : evErr l acts who x = 0 := by
  unfold evErr
  have : x.find? (fun e => seesE l acts who e.2.2 != 0) = none := by
    rw [List.find?_eq_none]
    intro p hp
    obtain ⟨j, hj, rfl⟩ := List.getElem_of_mem hp
    simp [hne j hj]
  rw [this]; rfl
theorem nilR (w : World) : Evs w [] (.slice none 0 0) := ⟨none, 0, rfl, by simp, by unfold maxLen; omega, Or.inl rfl⟩

set_option maxHeartbeats 1000000 in
set_option maxRecDepth 100000 in
theorem seen_calls (l : List Txt) (acts : List (Txt × Txt)) (who : Txt) (x : List Evt) (v u t : Value) (w : World) (hv : Strs w l v) (hu : Prs w acts u) (ht : Evs w x t) (hl : okList okTxt l) (hxo : okList okEvt x) :
    Calls Tryd.prog 21 #[v, u, .string who, t] w fun e w' => ∃ y, e = .returned (.tuple #[y, .int .i64 (seenE l acts who x)]) ∧ Evs w' (seenR l acts who x) y ∧ Below w.heap.size w w' := by
  obtain ⟨b0, o0, c0, p0, rfl, _⟩ := hv.cells
  obtain ⟨b1, o1, c1, p1, rfl, _⟩ := hu.cells
  obtain ⟨b2, o2, c2, p2, rfl, hlc, hcm, hp, hcells⟩ := ht.cells
  obtain ⟨W3, eW⟩ : ∃ W3, ((w.alloc (.cells #[.slice p0 l.length c0] 22)).alloc (.cells #[.slice p1 acts.length c1] 23)).alloc (.cells #[.string who] 9) = W3 := ⟨_, rfl⟩
  obtain ⟨z3, hW, m1, m2, m3⟩ := boxes3 eW
  have hc1 := m1 0
  have hc2 := m2 0
  have hc3 := m3 0
  simp only [List.getElem?_toArray, List.getElem?_cons_zero] at hc1 hc2 hc3
  have HW := Lib.hid hW
  have HZ := Lib.hid z3
  have HC1 := Lib.hid hc1
  have HC2 := Lib.hid hc2
  have HC3 := Lib.hid hc3
  clear m1 m2 m3 hW z3
  by_cases h0 : x.length ≤ 3000
  · have h0' : (x.length : Int) ≤ 3000 := by omega
    by_cases hs : seesE l acts who [] = 0
    · obtain ⟨t0, hi, hz0, hz1, hz2⟩ := info_parts Tryd.info_event
      have eg : ∀ args w, (callFunc 45 args).run Tryd.prog w = .ok (.enter 45 args) w := enters_at Tryd.func45 (by kernel_rfl) rfl
      have HS := Lib.hid hs
      go_enter Tryd.func21, Tryd.ntmps21
      go_wp2_with (fail)
      refine (sees_calls l acts who [] _ _ _ _ (hv.stays (keeps_of_below HW.out)) (hu.stays (keeps_of_below HW.out)) ⟨none, 0, rfl, by simp, by unfold maxLen; omega, Or.inl rfl⟩ hl (fun _ h => by simp at h)).mono ?_
      rintro e w4 ⟨rfl, hb4⟩
      rw [hs]
      clear hs hc1 hc2 hc3
      have HB4 := Lib.hid hb4
      have HB04 := Lib.hid (HW.out.trans (hb4.mono HW.out.size))
      clear hb4
      go_wp2
      go_loopw [13, 15, 16, 17, 34] (fun y _ _ _ i wr => ∃ k : Nat, k ≤ x.length ∧ i = .int .i64 k ∧ Below w4.heap.size w4 wr ∧ wr.ownsRow w4.heap.size 52 3 y (seenTo l acts who x k).length (((x.take k).filter fun e => seesB l acts who e.2.2).flatMap evCells) ∧ Hid (∀ j (hj : j < x.length), j < k → seesE l acts who x[j].2.2 = 0)) (fun _ _ _ _ i _ => x.length - (intOf i).toNat)
      case atStart => exact ⟨0, Nat.zero_le _, rfl, Below.refl _ _, World.ownsRow_nil _ _ _ _, fun j _ hj => absurd hj (Nat.not_lt_zero _)⟩
      case round =>
        obtain ⟨k, hk, rfl, hbr, hown, HN⟩ := hrel
        have HBR := Lib.hid hbr
        have HBW := Lib.hid (HB04.out.trans (hbr.mono HB04.out.size))
        have HB3 := Lib.hid (HB4.out.trans (hbr.mono HB4.out.size))
        have HOWN := Lib.hid hown
        clear hbr hown
        by_cases hlt : k < x.length
        · obtain ⟨ul, q1, q2, q3, hul⟩ := hcells k hlt
          have hcell1 : wr.cell? ⟨b2, o2 + k * 3, none⟩ = some (.string x[k].1) := (HBW.out.cell (cell_lt q1)).trans q1
          have hcell2 : wr.cell? ⟨b2, o2 + k * 3 + 1, none⟩ = some (.int .i64 x[k].2.1) := (HBW.out.cell (cell_lt q2)).trans q2
          have hcell3 : wr.cell? ⟨b2, o2 + k * 3 + 2, none⟩ = some ul := (HBW.out.cell (cell_lt q3)).trans q3
          obtain rfl := hp (by omega)
          clear hp hcells q1 q2 q3
          obtain ⟨b9, o9, c9, p9, rfl, _⟩ := hul.cells
          obtain ⟨W5, eW5⟩ : ∃ W5, wr.alloc (.cells #[.string x[k].1, .int .i64 x[k].2.1, .slice p9 x[k].2.2.length c9] 52) = W5 := ⟨_, rfl⟩
          obtain ⟨z5, hW5, m5⟩ := boxes1 eW5
          have hd1 := m5 0
          have hd2 := m5 1
          have hd3 := m5 2
          simp only [List.getElem?_toArray, List.getElem?_cons_zero, List.getElem?_cons_succ] at hd1 hd2 hd3
          have HW5 := Lib.hid hW5
          have HZ5 := Lib.hid z5
          have HB35 := Lib.hid (HB3.out.trans (hW5.mono HB3.out.size))
          have HB05 := Lib.hid (HBW.out.trans (hW5.mono HBW.out.size))
          have hzz := HZ.out
          have HF : Hid (Calls Tryd.prog 45 #[.agg #[.string x[k].1, .int .i64 x[k].2.1, .slice p9 x[k].2.2.length c9], .pointer (some ⟨w.heap.size, 0, none⟩), .pointer (some ⟨w.heap.size + 1, 0, none⟩), .pointer (some ⟨w.heap.size + 1 + 1, 0, none⟩)] W5 fun e w' => e = .returned (.tuple #[.bool (seesB l acts who x[k].2.2), .int .i64 (seesE l acts who x[k].2.2)]) ∧ Below W5.heap.size W5 w') :=
            seenF_calls l acts who x[k] _ _ _ w.heap.size (w.heap.size + 1) (w.heap.size + 1 + 1) W5 (hv.stays (keeps_of_below HB05.out)) (hu.stays (keeps_of_below HB05.out)) (hul.stays (keeps_of_below HB05.out)) hl (hxo _ (List.getElem_mem hlt)).2.2
              ((HB35.out.cell (p := ⟨w.heap.size, 0, none⟩) (by simp only; omega)).trans HC1.out) ((HB35.out.cell (p := ⟨w.heap.size + 1, 0, none⟩) (by simp only; omega)).trans HC2.out) ((HB35.out.cell (p := ⟨w.heap.size + 1 + 1, 0, none⟩) (by simp only; omega)).trans HC3.out)
          have hle := seenTo_le l acts who x k
          clear hzz hul m5 hW5 z5
          have HX0 := Lib.hid hxo
          clear hxo
          by_cases he : seesE l acts who x[k].2.2 = 0
          · have HN2 : Hid (∀ j (hj : j < x.length), j < k + 1 → seesE l acts who x[j].2.2 = 0) := fun j hj h => by
              by_cases hjk : j = k
              · subst hjk; exact he
              · exact HN.out j hj (by omega)
            cases hsb : seesB l acts who x[k].2.2 with
            | false =>
              have HX : Hid (seenTo l acts who x (k + 1) = seenTo l acts who x k ∧ (x.take (k + 1)).filter (fun e => seesB l acts who e.2.2) = (x.take k).filter fun e => seesB l acts who e.2.2) := ⟨seenTo_miss hlt hsb, by rw [List.take_succ_eq_append_getElem hlt, List.filter_append]; simp [hsb]⟩
              go_wp2_with (fail)
              refine HF.out.mono ?_
              rintro e w6 ⟨rfl, hb6⟩
              rw [he, hsb]
              clear he hsb
              have hb46 : Below wr.heap.size wr w6 := HW5.out.trans (hb6.mono HW5.out.size)
              have HB46 := Lib.hid hb46
              go_wp2
              go_roundw
              case rel =>
                refine ⟨k + 1, by omega, by go_num, HBR.out.trans (HB46.out.mono HBR.out.size), ?_, HN2⟩
                rw [HX.out.1, HX.out.2]
                exact own_below HOWN.out HB46.out
              case measure => simp [intOf]; omega
            | true =>
              have HX : Hid (seenTo l acts who x (k + 1) = seenTo l acts who x k ++ [bareEv x[k]] ∧ (x.take (k + 1)).filter (fun e => seesB l acts who e.2.2) = (x.take k).filter (fun e => seesB l acts who e.2.2) ++ [x[k]]) := ⟨seenTo_hit hlt hsb, by rw [List.take_succ_eq_append_getElem hlt, List.filter_append]; simp [hsb]⟩
              go_wp2_with (fail)
              refine HF.out.mono ?_
              rintro e w6 ⟨rfl, hb6⟩
              rw [he, hsb]
              clear he hsb
              have hzq := HZ5.out
              have hb46 : Below wr.heap.size wr w6 := HW5.out.trans (hb6.mono HW5.out.size)
              have hs6 : w6.cell? ⟨wr.heap.size, 0, none⟩ = some (.string x[k].1) := (hb6.cell (p := ⟨wr.heap.size, 0, none⟩) (by simp only; omega)).trans hd1
              have hs7 : w6.cell? ⟨wr.heap.size, 1, none⟩ = some (.int .i64 x[k].2.1) := (hb6.cell (p := ⟨wr.heap.size, 1, none⟩) (by simp only; omega)).trans hd2
              have hown6 := own_below HOWN.out hb46
              have hb36 : Below w4.heap.size w4 w6 := HBR.out.trans (hb46.mono HBR.out.size)
              have HB36 := Lib.hid hb36
              have hsz36 := hb36.size
              clear hb46 hb6 hb36 hzq hcell1 hcell2 hcell3 hd1 hd2 hd3
              go_wp2_with (at_builtin; refine wpList_append_own _ rfl _ _ 43 rfl w4.heap.size 52 t0 (.agg #[.string ByteArray.empty, .int .i64 0, .slice none 0 0]) 3 48 Tryd.underlying43 hi hz0 hz1 hz2 rfl (by decide) _ _ _ rfl (hown6.alloc _) ⟨w6.heap.size, 0, none⟩ 1 1 (evCells x[k]) rfl rfl ?c1 ?c2 ?c3 ?c4 ?c5 ?_)
              case c1 =>
                intro j u hj
                match j, hj with
                | 0, hj => simp [evCells] at hj; subst hj; simp [Addr.add]
                | 1, hj => simp [evCells] at hj; subst hj; simp [Addr.add]
                | 2, hj => simp [evCells] at hj; subst hj; simp [Addr.add]
              case c2 => intro u hu; simp [evCells] at hu; rcases hu with rfl | rfl | rfl <;> rfl
              case c3 => unfold maxLen; omega
              case c4 => omega
              case c5 => simp; omega
              · intro v' w7 hown' hgrow _
                go_wp2
                go_roundw
                case rel =>
                  refine ⟨k + 1, by omega, by go_num, (HB36.out.alloc HB36.out.size _).grown hgrow (by have := HB36.out.size; simp; omega) (fun q hq => (hown6.lt q hq).1), ?_, HN2⟩
                  rw [HX.out.1, HX.out.2]
                  simpa [List.flatMap_append] using hown'
                case measure => simp [intOf]; omega
          · have hq : (seesE l acts who x[k].2.2 != 0) = true := by simpa using he
            have hq2 : (seesE l acts who x[k].2.2 == 0) = false := by simpa using he
            have HE : Hid (seenE l acts who x = seesE l acts who x[k].2.2 ∧ seenR l acts who x = []) := by
              have e : seenE l acts who x = seesE l acts who x[k].2.2 := by unfold seenE; rw [if_neg (by omega), if_neg (by rw [HS.out]; simp)]; exact evErr_at hlt he HN.out
              exact ⟨e, by unfold seenR; rw [e, if_neg he]⟩
            clear he
            go_wp2_with (fail)
            refine HF.out.mono ?_
            rintro e w6 ⟨rfl, hb6⟩
            go_wp2
            go_ret2
            exact ⟨_, by rw [HE.out.1]; rfl, by rw [HE.out.2]; exact nilR _, HB05.out.trans (hb6.mono HB05.out.size)⟩
        · obtain rfl : k = x.length := by omega
          have HE : Hid (seenE l acts who x = 0 ∧ seenR l acts who x = seenTo l acts who x x.length) := by
            have e : seenE l acts who x = 0 := by unfold seenE; rw [if_neg (by omega), if_neg (by rw [HS.out]; simp)]; exact evErr_none fun j hj => HN.out j hj hj
            exact ⟨e, by unfold seenR; rw [e, if_pos rfl]⟩
          clear hp hcells
          go_wp2
          go_ret2
          refine ⟨_, by rw [HE.out.1]; rfl, ?_, HBW.out⟩
          rw [HE.out.2]
          exact SliceOf.of_rows HOWN.out (ev_rows _ _)
    · have HE : Hid (seenE l acts who x = seesE l acts who [] ∧ seenR l acts who x = []) := by
        have e : seenE l acts who x = seesE l acts who [] := by unfold seenE; rw [if_neg (by omega), if_pos hs]
        exact ⟨e, by unfold seenR; rw [e, if_neg hs]⟩
      have hq : (seesE l acts who [] != 0) = true := by simpa using hs
      have hq2 : (seesE l acts who [] == 0) = false := by simpa using hs
      clear hs hp hcells
      go_enter Tryd.func21, Tryd.ntmps21
      go_wp2_with (fail)
      refine (sees_calls l acts who [] _ _ _ _ (hv.stays (keeps_of_below HW.out)) (hu.stays (keeps_of_below HW.out)) ⟨none, 0, rfl, by simp, by unfold maxLen; omega, Or.inl rfl⟩ hl (fun _ h => by simp at h)).mono ?_
      rintro e w4 ⟨rfl, hb4⟩
      go_wp2
      go_ret2
      exact ⟨_, by rw [HE.out.1]; rfl, by rw [HE.out.2]; exact nilR _, HW.out.trans (hb4.mono HW.out.size)⟩
  · have h0' : 3000 < (x.length : Int) := by omega
    have HE : Hid (seenE l acts who x = 2 ∧ seenR l acts who x = []) := by
      have e : seenE l acts who x = 2 := by unfold seenE; rw [if_pos (by omega)]
      exact ⟨e, by unfold seenR; rw [e, if_neg (by omega)]⟩
    clear hp hcells
    go_enter Tryd.func21, Tryd.ntmps21
    go_wp2
    go_ret2
    exact ⟨_, by rw [HE.out.1]; rfl, by rw [HE.out.2]; exact nilR _, HW.out⟩
end Go.Proofs.YtfbieagkhbmgjaaDoor
