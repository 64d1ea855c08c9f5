/-
  label.Flows and label.Reads.
-/
import Derived.Test.YtfbieagkhbmgjaaDoorLabD
namespace Go.Proofs.YtfbieagkhbmgjaaDoor
open Go.RowKit Go.Maps
set_option linter.unusedVariables false
set_option linter.unusedSimpArgs false

def flowsE (l : List Txt) (acts : List (Txt × Txt)) (a b : Lab) : Int := if labE l acts a ≠ 0 then labE l acts a else labE l acts b
def flowsR (l : List Txt) (acts : List (Txt × Txt)) (a b : Lab) : Bool := flowsE l acts a b == 0 && flowsB (mayB l acts) a b

theorem labE_check {l : List Txt} {acts : List (Txt × Txt)} {x : Lab} (h : labE l acts x = 0) : checkC l acts = 0 ∧ labErr l x = 0 := by
  unfold labE at h
  split at h
  · omega
  · exact ⟨by omega, h⟩

set_option maxHeartbeats 1000000 in
set_option maxRecDepth 100000 in
theorem flows_calls (l : List Txt) (acts : List (Txt × Txt)) (a b : Lab) (v u va vb : Value) (w : World) (hv : Strs w l v) (hu : Prs w acts u) (ha : Lbl w a va) (hb : Lbl w b vb) (hl : okList okTxt l) (hao : okLab a) (hbo : okLab b) :
    Calls Tryd.prog 35 #[v, u, va, vb] w fun e w' => e = .returned (.tuple #[.bool (flowsR l acts a b), .int .i64 (flowsE l acts a b)]) ∧ Below w.heap.size w w' := by
  obtain ⟨b0, o0, c0, p0, rfl, _⟩ := hv.cells
  obtain ⟨b1, o1, c1, p1, rfl, _⟩ := hu.cells
  obtain ⟨b2, o2, c2, p2, rfl, _⟩ := ha.cells
  obtain ⟨b3, o3, c3, p3, rfl, _⟩ := hb.cells
  have i0 : ∀ x y (w : World), (Instr.index 89 (.agg #[x, y]) (.int .i64 0)).run Tryd.prog w = .ok x w := fun _ _ _ => by kernel_rfl
  have i1 : ∀ x y (w : World), (Instr.index 89 (.agg #[x, y]) (.int .i64 1)).run Tryd.prog w = .ok y w := fun _ _ _ => by kernel_rfl
  go_enter Tryd.func35, Tryd.ntmps35
  go_wp2
  go_loopw [11, 12, 16] (fun _ _ i wr => ∃ k : Nat, k ≤ 2 ∧ i = .int .i64 k ∧ Below w.heap.size w wr ∧ Hid ((0 < k → labE l acts a = 0) ∧ (1 < k → labE l acts b = 0))) (fun _ _ i _ => 2 - (intOf i).toNat)
  case atStart => exact ⟨0, by omega, rfl, Below.refl _ _, fun h => absurd h (by omega), fun h => absurd h (by omega)⟩
  case round =>
    obtain ⟨k, hk, rfl, hbr, HK⟩ := hrel
    match k, hk, HK with
    | 0, _, HK =>
      by_cases he : labE l acts a = 0
      · have HE := Lib.hid he
        go_wp2_with (fail)
        refine (labCheck_calls l acts a _ _ _ _ (hv.stays (keeps_of_below hbr)) (hu.stays (keeps_of_below hbr)) (ha.stays (keeps_of_below hbr))).mono ?_
        rintro e w1 ⟨rfl, hb1⟩
        rw [he]
        clear he
        go_wp2
        go_roundw
        case rel => exact ⟨1, by omega, by go_num, hbr.trans (hb1.mono hbr.size), fun _ => HE.out, fun h => absurd h (by omega)⟩
        case measure => simp [intOf]
      · have HE : Hid (flowsE l acts a b = labE l acts a ∧ flowsR l acts a b = false) := by
          have e : flowsE l acts a b = labE l acts a := by unfold flowsE; rw [if_pos he]
          exact ⟨e, by unfold flowsR; rw [e]; simp [he]⟩
        have hq : (labE l acts a != 0) = true := by simpa using he
        have hq2 : (labE l acts a == 0) = false := by simpa using he
        clear he
        go_wp2_with (fail)
        refine (labCheck_calls l acts a _ _ _ _ (hv.stays (keeps_of_below hbr)) (hu.stays (keeps_of_below hbr)) (ha.stays (keeps_of_below hbr))).mono ?_
        rintro e w1 ⟨rfl, hb1⟩
        go_wp2
        go_ret2
        exact ⟨by rw [HE.out.1, HE.out.2]; rfl, hbr.trans (hb1.mono hbr.size)⟩
    | 1, _, HK =>
      have he0 : labE l acts a = 0 := HK.out.1 (by omega)
      have HE0 := Lib.hid he0
      clear he0
      by_cases he : labE l acts b = 0
      · have HE := Lib.hid he
        go_wp2_with (fail)
        refine (labCheck_calls l acts b _ _ _ _ (hv.stays (keeps_of_below hbr)) (hu.stays (keeps_of_below hbr)) (hb.stays (keeps_of_below hbr))).mono ?_
        rintro e w1 ⟨rfl, hb1⟩
        rw [he]
        clear he
        go_wp2
        go_roundw
        case rel => exact ⟨2, by omega, by go_num, hbr.trans (hb1.mono hbr.size), fun _ => HE0.out, fun _ => HE.out⟩
        case measure => simp [intOf]
      · have HE : Hid (flowsE l acts a b = labE l acts b ∧ flowsR l acts a b = false) := by
          have e : flowsE l acts a b = labE l acts b := by unfold flowsE; rw [if_neg (by rw [HE0.out]; simp)]
          exact ⟨e, by unfold flowsR; rw [e]; simp [he]⟩
        have hq : (labE l acts b != 0) = true := by simpa using he
        have hq2 : (labE l acts b == 0) = false := by simpa using he
        clear he
        go_wp2_with (fail)
        refine (labCheck_calls l acts b _ _ _ _ (hv.stays (keeps_of_below hbr)) (hu.stays (keeps_of_below hbr)) (hb.stays (keeps_of_below hbr))).mono ?_
        rintro e w1 ⟨rfl, hb1⟩
        go_wp2
        go_ret2
        exact ⟨by rw [HE.out.1, HE.out.2]; rfl, hbr.trans (hb1.mono hbr.size)⟩
    | 2, _, HK =>
      have he0 : labE l acts a = 0 := HK.out.1 (by omega)
      have he1 : labE l acts b = 0 := HK.out.2 (by omega)
      have hc := (labE_check he0).1
      have HC := Lib.hid hc
      have HE : Hid (flowsE l acts a b = 0 ∧ flowsR l acts a b = flowsB (mayB l acts) a b) := by
        have e : flowsE l acts a b = 0 := by unfold flowsE; rw [if_neg (by rw [he0]; simp), he1]
        exact ⟨e, by unfold flowsR; rw [e]; rfl⟩
      clear he0 he1 hc i0 i1
      go_wp2_with (fail)
      refine (among_calls l acts _ _ _ (hv.stays (keeps_of_below hbr)) (hu.stays (keeps_of_below hbr)) HC.out hl).mono ?_
      rintro e w1 ⟨r, rfl, hp1, hb1⟩
      have hbw : Below w.heap.size w w1 := hbr.trans (hb1.mono hbr.size)
      go_wp2_with (fail)
      refine (wflows_calls (mayB l acts) _ r a b _ _ _ hp1 hao hbo (ha.stays (keeps_of_below hbw)) (hb.stays (keeps_of_below hbw))).mono ?_
      rintro e w2 ⟨rfl, hb2⟩
      go_wp2
      go_ret2
      exact ⟨by rw [HE.out.1, HE.out.2]; rfl, hbw.trans (hb2.mono hbw.size)⟩

/-- Those whom a label lets read, of the first ones. -/
def readsTo (q : Txt → Txt → Bool) (l : List Txt) (x : Lab) (k : Nat) : List Txt := (l.take k).filter fun s => !anyBy x fun p => !letsB q p s
theorem readsTo_hit {q : Txt → Txt → Bool} {l : List Txt} {x : Lab} {k : Nat} (hk : k < l.length) (h : (anyBy x fun p => !letsB q p l[k]) = false) : readsTo q l x (k + 1) = readsTo q l x k ++ [l[k]] := by
  unfold readsTo; rw [List.take_succ_eq_append_getElem hk, List.filter_append]; simp [h]
theorem readsTo_miss {q : Txt → Txt → Bool} {l : List Txt} {x : Lab} {k : Nat} (hk : k < l.length) (h : (anyBy x fun p => !letsB q p l[k]) = true) : readsTo q l x (k + 1) = readsTo q l x k := by
  unfold readsTo; rw [List.take_succ_eq_append_getElem hk, List.filter_append]; simp [h]
theorem readsTo_le (q : Txt → Txt → Bool) (l : List Txt) (x : Lab) (k : Nat) : (readsTo q l x k).length ≤ k := by
  unfold readsTo; exact Nat.le_trans (List.length_filter_le _ _) (List.length_take_le _ _)
def readsL (q : Txt → Txt → Bool) (l : List Txt) (x : Lab) : List Txt := l.filter fun s => !anyBy x fun p => !letsB q p s
def readsR (l : List Txt) (acts : List (Txt × Txt)) (x : Lab) : List Txt := if labE l acts x = 0 then readsL (mayB l acts) l x else []

section
variable (q : Txt → Txt → Bool) (vc : Value) (r : Nat)
theorem readsF_calls (p : Pol) (s : Txt) (vp : Value) (g1 g2 : Nat) (w : World) (hp : PairsAt w r q) (hpo : okPol p) (hs : okTxt s) (hr : Strs w p.2 vp)
    (h1 : w.cell? ⟨g1, 0, none⟩ = some vc) (h2 : w.cell? ⟨g1, 1, none⟩ = some (.map (some r))) (h3 : w.cell? ⟨g2, 0, none⟩ = some (.string s)) :
    Calls Tryd.prog 53 #[.agg #[.string p.1, vp], .pointer (some ⟨g1, 0, none⟩), .pointer (some ⟨g2, 0, none⟩)] w fun e w' => e = .returned (.bool (!letsB q p s)) ∧ Below w.heap.size w w' := by
  obtain ⟨o, rs⟩ := p
  have l1 := cell_lt h1
  have l3 := cell_lt h3
  obtain ⟨W1, eW⟩ : ∃ W1, w.alloc (.cells #[.string o, vp] 85) = W1 := ⟨_, rfl⟩
  obtain ⟨z1, hW, m1⟩ := boxes1 eW
  have HW := Lib.hid hW
  have HP := Lib.hid hp
  have hc1 := m1 0
  have hc2 := m1 1
  simp only [List.getElem?_toArray, List.getElem?_cons_zero, List.getElem?_cons_succ] at hc1 hc2
  have k1 : W1.cell? ⟨g1, 0, none⟩ = some vc := (hW.cell l1).trans h1
  have k2 : W1.cell? ⟨g1, 1, none⟩ = some (.map (some r)) := (hW.cell (p := ⟨g1, 1, none⟩) l1).trans h2
  have k3 : W1.cell? ⟨g2, 0, none⟩ = some (.string s) := (hW.cell l3).trans h3
  clear m1 hW z1 hp h1 h2 h3
  go_enter Tryd.func53, Tryd.ntmps53
  go_wp2_with (fail)
  refine (lets_calls q vc r (o, rs) s vp _ (HP.out.below HW.out) hpo hs (hr.stays (keeps_of_below HW.out))).mono ?_
  rintro e w1 ⟨rfl, hb⟩
  go_wp2
  go_ret
  exact ⟨rfl, HW.out.trans (hb.mono HW.out.size)⟩
end

set_option maxHeartbeats 1000000 in
set_option maxRecDepth 100000 in
theorem reads_calls (l : List Txt) (acts : List (Txt × Txt)) (x : Lab) (v u t : Value) (w : World) (hv : Strs w l v) (hu : Prs w acts u) (ht : Lbl w x t) (hl : okList okTxt l) (hxo : okLab x) :
    Calls Tryd.prog 36 #[v, u, t] w fun e w' => ∃ y, e = .returned (.tuple #[y, .int .i64 (labE l acts x)]) ∧ Strs w' (readsR l acts x) y ∧ Below w.heap.size w w' := by
  have hv0 := hv
  obtain ⟨b0, o0, c0, p0, rfl, hlc, hcm, hp0, hcells0⟩ := hv.cells
  obtain ⟨b1, o1, c1, p1, rfl, _⟩ := hu.cells
  obtain ⟨b2, o2, c2, p2, rfl, _⟩ := ht.cells
  by_cases he : labE l acts x = 0
  · obtain ⟨hc, _⟩ := labE_check he
    obtain ⟨z1, _, _, _⟩ := checkC_zero hc
    have HC := Lib.hid hc
    have hR : readsR l acts x = readsTo (mayB l acts) l x l.length := by unfold readsR readsTo readsL; rw [if_pos he, List.take_length]
    have HR := Lib.hid hR
    have HE := Lib.hid he
    obtain ⟨t0, hi, hz0, hz1, hz2⟩ := info_parts Tryd.info_stringL
    have eg : ∀ args w, (callFunc 53 args).run Tryd.prog w = .ok (.enter 53 args) w := enters_at Tryd.func53 (by kernel_rfl) rfl
    have HEG := Lib.hid eg
    have HL := Lib.hid hl
    clear hc eg hv hl hR
    go_enter Tryd.func36, Tryd.ntmps36
    go_wp2_with (fail)
    refine (labCheck_calls l acts x _ _ _ _ hv0 hu ht).mono ?_
    rintro e w1 ⟨rfl, hb1⟩
    rw [he]
    clear he
    go_wp2_with (fail)
    refine (among_calls l acts _ _ _ (hv0.stays (keeps_of_below hb1)) (hu.stays (keeps_of_below hb1)) HC.out HL.out).mono ?_
    rintro e w2 ⟨r, rfl, hp2, hb2⟩
    generalize mayB l acts = q at *
    obtain ⟨W3, eW⟩ : ∃ W3, w2.alloc (.cells #[.slice p0 l.length c0, .map (some r)] 92) = W3 := ⟨_, rfl⟩
    obtain ⟨z3, hW, m1⟩ := boxes1 eW
    have hm0 := m1 0
    have hm1 := m1 1
    simp only [List.getElem?_toArray, List.getElem?_cons_zero, List.getElem?_cons_succ] at hm0 hm1
    have hbw2 : Below w.heap.size w w2 := hb1.trans (hb2.mono hb1.size)
    have hbw3 : Below w.heap.size w W3 := hbw2.trans (hW.mono hbw2.size)
    have hp3 := hp2.below hW
    have HB3 := Lib.hid hbw3
    have HP3 := Lib.hid hp3
    have HZ3 := Lib.hid z3
    have HM0 := Lib.hid hm0
    have HM1 := Lib.hid hm1
    clear m1 hW z3 hp2 hb1 hb2 hbw2 hbw3 hp3 hm0 hm1
    go_wp2
    go_loopw [10, 12, 25] (fun y _ i wr => ∃ k : Nat, k ≤ l.length ∧ i = .int .i64 k ∧ Below W3.heap.size W3 wr ∧ wr.ownsRow W3.heap.size 9 1 y (readsTo q l x k).length ((readsTo q l x k).map Value.string)) (fun _ _ i _ => l.length - (intOf i).toNat)
    case atStart => exact ⟨0, Nat.zero_le _, rfl, Below.refl _ _, World.ownsRow_nil _ _ _ _⟩
    case round =>
      obtain ⟨k, hk, rfl, hbr, hown⟩ := hrel
      have hbw : Below w.heap.size w wr := HB3.out.trans (hbr.mono HB3.out.size)
      by_cases hlt : k < l.length
      · have hcell0 := hcells0 k hlt
        have hcell : wr.cell? ⟨b0, o0 + k, none⟩ = some (.string l[k]) := (hbw.cell (cell_lt hcell0)).trans hcell0
        obtain rfl := hp0 (by omega)
        have hok := HL.out l[k] (List.getElem_mem hlt)
        have hle := readsTo_le q l x k
        have HBR := Lib.hid hbr
        have HOWN := Lib.hid hown
        have HBW := Lib.hid hbw
        clear hp0 hcells0 hcell0 hbr hown hbw
        obtain ⟨W4, eW4⟩ : ∃ W4, wr.alloc (.cells #[.string l[k]] 9) = W4 := ⟨_, rfl⟩
        obtain ⟨z4, hW4, m4⟩ := boxes1 eW4
        have hm4 := m4 0
        simp only [List.getElem?_toArray, List.getElem?_cons_zero, List.getElem?_cons_succ] at hm4
        have HW4 := Lib.hid hW4
        have HZ4 := Lib.hid z4
        have HM4 := Lib.hid hm4
        have hl2 : w2.heap.size < wr.heap.size := Nat.lt_of_lt_of_le (by have := HZ3.out; omega) HBR.out.size
        have hxs : wr.heap.size < W4.heap.size := by omega
        clear m4 hW4 z4
        cases hx : anyBy x (fun p => !letsB q p l[k]) with
        | true =>
          have HX : Hid (readsTo q l x (k + 1) = readsTo q l x k) := readsTo_miss hlt hx
          go_wp2_with (fail)
          refine (containsPol_calls x _ 53 #[.pointer (some ⟨w2.heap.size, 0, none⟩), .pointer (some ⟨wr.heap.size, 0, none⟩)] (fun p => !letsB q p l[k]) _ (ht.stays (keeps_of_below (HBW.out.trans (HW4.out.mono HBW.out.size)))) HEG.out ?_).mono ?_
          · intro p hp vp w5 hb5 hr5
            have hb45 : Below wr.heap.size wr w5 := HW4.out.trans (hb5.mono HW4.out.size)
            have hb35 : Below W3.heap.size W3 w5 := HBR.out.trans (hb45.mono HBR.out.size)
            exact readsF_calls q _ r p l[k] vp w2.heap.size wr.heap.size w5 (HP3.out.below hb35) (hxo p hp) hok hr5
              ((hb35.cell (p := ⟨w2.heap.size, 0, none⟩) (by have := HZ3.out; simp only; omega)).trans HM0.out) ((hb35.cell (p := ⟨w2.heap.size, 1, none⟩) (by have := HZ3.out; simp only; omega)).trans HM1.out)
              ((hb5.cell (p := ⟨wr.heap.size, 0, none⟩) hxs).trans HM4.out)
          · rintro e w5 ⟨rfl, hb5⟩
            rw [hx]
            clear hx
            have hb45 : Below wr.heap.size wr w5 := HW4.out.trans (hb5.mono HW4.out.size)
            have HB45 := Lib.hid hb45
            go_wp2
            go_roundw
            case rel =>
              refine ⟨k + 1, by omega, by go_num, HBR.out.trans (HB45.out.mono HBR.out.size), ?_⟩
              rw [HX.out]
              exact own_below HOWN.out HB45.out
            case measure => simp [intOf]; omega
        | false =>
          have HX : Hid (readsTo q l x (k + 1) = readsTo q l x k ++ [l[k]]) := readsTo_hit hlt hx
          go_wp2_with (fail)
          refine (containsPol_calls x _ 53 #[.pointer (some ⟨w2.heap.size, 0, none⟩), .pointer (some ⟨wr.heap.size, 0, none⟩)] (fun p => !letsB q p l[k]) _ (ht.stays (keeps_of_below (HBW.out.trans (HW4.out.mono HBW.out.size)))) HEG.out ?_).mono ?_
          · intro p hp vp w5 hb5 hr5
            have hb45 : Below wr.heap.size wr w5 := HW4.out.trans (hb5.mono HW4.out.size)
            have hb35 : Below W3.heap.size W3 w5 := HBR.out.trans (hb45.mono HBR.out.size)
            exact readsF_calls q _ r p l[k] vp w2.heap.size wr.heap.size w5 (HP3.out.below hb35) (hxo p hp) hok hr5
              ((hb35.cell (p := ⟨w2.heap.size, 0, none⟩) (by have := HZ3.out; simp only; omega)).trans HM0.out) ((hb35.cell (p := ⟨w2.heap.size, 1, none⟩) (by have := HZ3.out; simp only; omega)).trans HM1.out)
              ((hb5.cell (p := ⟨wr.heap.size, 0, none⟩) hxs).trans HM4.out)
          · rintro e w5 ⟨rfl, hb5⟩
            rw [hx]
            clear hx
            have hb45 : Below wr.heap.size wr w5 := HW4.out.trans (hb5.mono HW4.out.size)
            have hs5 : w5.cell? ⟨wr.heap.size, 0, none⟩ = some (.string l[k]) := (hb5.cell (p := ⟨wr.heap.size, 0, none⟩) hxs).trans HM4.out
            have hown5 := own_below HOWN.out hb45
            have hb35 : Below W3.heap.size W3 w5 := HBR.out.trans (hb45.mono HBR.out.size)
            have HB35 := Lib.hid hb35
            have hsz35 := hb35.size
            clear hb45 hb5 hb35 hcell
            go_wp2_with (at_builtin; refine wpList_append_own _ rfl _ _ 22 rfl W3.heap.size 9 t0 (.string ByteArray.empty) 1 16 Tryd.underlying22 hi hz0 hz1 hz2 rfl (by decide) _ _ _ rfl (hown5.alloc _) ⟨w5.heap.size, 0, none⟩ 1 1 [.string l[k]] rfl rfl ?c1 ?c2 ?c3 ?c4 ?c5 ?_)
            case c1 =>
              intro j u hj
              match j, hj with
              | 0, hj => simp at hj; subst hj; simp [Addr.add]
            case c2 => intro u hu; simp at hu; subst hu; rfl
            case c3 => unfold maxLen; omega
            case c4 => omega
            case c5 => simp; omega
            · intro v' w6 hown' hgrow _
              go_wp2
              go_roundw
              case rel =>
                refine ⟨k + 1, by omega, by go_num, (HB35.out.alloc HB35.out.size _).grown hgrow (by have := HB35.out.size; simp; omega) (fun q hq => (hown5.lt q hq).1), ?_⟩
                rw [HX.out]
                simpa using hown'
              case measure => simp [intOf]; omega
      · obtain rfl : k = l.length := by omega
        have HO := Lib.hid hown
        have HBW := Lib.hid hbw
        clear hp0 hcells0 hown hbw hbr
        go_wp2
        go_ret2
        refine ⟨_, by rw [HE.out]; rfl, ?_, HBW.out⟩
        rw [HR.out]
        exact Strs.of_owns HO.out
  · have hR : readsR l acts x = [] := by unfold readsR; rw [if_neg he]
    rw [hR]
    have hq : (labE l acts x != 0) = true := by simpa using he
    have hq2 : (labE l acts x == 0) = false := by simpa using he
    clear he hR
    go_enter Tryd.func36, Tryd.ntmps36
    go_wp2_with (fail)
    refine (labCheck_calls l acts x _ _ _ _ hv0 hu ht).mono ?_
    rintro e w1 ⟨rfl, hb1⟩
    go_wp2
    go_ret2
    exact ⟨_, rfl, ⟨none, 0, rfl, by simp, by unfold maxLen; omega, Or.inl rfl⟩, hb1⟩
end Go.Proofs.YtfbieagkhbmgjaaDoor
