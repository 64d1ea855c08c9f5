/-
  Labels: what may go where; whether a label is right.
-/
import Derived.Test.YtfbieagkhbmgjaaDoorLabA
import Derived.Test.YtfbieagkhbmgjaaDoorApp
namespace Go.Proofs.YtfbieagkhbmgjaaDoor
open Go.RowKit Go.Maps
set_option linter.unusedVariables false
set_option linter.unusedSimpArgs false

section
variable (q : Txt → Txt → Bool) (vc : Value) (r : Nat)

/-- One policy covers another one: the inner function. -/
theorem flowsG_calls (p x : Pol) (vp vx : Value) (g1 g2 : Nat) (w : World) (hp : PairsAt w r q) (hpo : okPol p) (hxo : okPol x) (hr : Strs w p.2 vp) (hs : Strs w x.2 vx)
    (h1 : w.cell? ⟨g1, 0, none⟩ = some vc) (h2 : w.cell? ⟨g1, 1, none⟩ = some (.map (some r))) (h3 : w.cell? ⟨g2, 0, none⟩ = some (.string x.1)) (h4 : w.cell? ⟨g2, 1, none⟩ = some vx) :
    Calls Tryd.prog 67 #[.agg #[.string p.1, vp], .pointer (some ⟨g1, 0, none⟩), .pointer (some ⟨g2, 0, none⟩)] w fun e w' => e = .returned (.bool (coversB q p x)) ∧ Below w.heap.size w w' := by
  obtain ⟨o, rs⟩ := p
  have l1 := cell_lt h1
  have l3 := cell_lt h3
  obtain ⟨W1, eW⟩ : ∃ W1, w.alloc (.cells #[.string o, vp] 85) = W1 := ⟨_, rfl⟩
  obtain ⟨z1, hW, m1⟩ := boxes1 eW
  have HW := Lib.hid hW
  have HP := Lib.hid hp
  have hc1 := m1 0
  have hc2 := m1 1
  simp only [List.getElem?_toArray, List.getElem?_cons_zero, List.getElem?_cons_succ] at hc1 hc2
  have k1 : W1.cell? ⟨g1, 0, none⟩ = some vc := (hW.cell l1).trans h1
  have k2 : W1.cell? ⟨g1, 1, none⟩ = some (.map (some r)) := (hW.cell (p := ⟨g1, 1, none⟩) l1).trans h2
  have k3 : W1.cell? ⟨g2, 0, none⟩ = some (.string x.1) := (hW.cell l3).trans h3
  have k4 : W1.cell? ⟨g2, 1, none⟩ = some vx := (hW.cell (p := ⟨g2, 1, none⟩) l3).trans h4
  clear m1 hW z1 hp h1 h2 h3 h4
  go_enter Tryd.func67, Tryd.ntmps67
  go_wp2_with (fail)
  refine (covers_calls q vc r (o, rs) x vp vx _ (HP.out.below HW.out) hpo hxo (hr.stays (keeps_of_below HW.out)) (hs.stays (keeps_of_below HW.out))).mono ?_
  rintro e w1 ⟨rfl, hb⟩
  go_wp2
  go_ret
  exact ⟨rfl, HW.out.trans (hb.mono HW.out.size)⟩

/-- Is there none that covers a policy? The outer function. -/
theorem flowsF_calls (x : Pol) (m : Lab) (vx vm : Value) (g1 g2 : Nat) (w : World) (hp : PairsAt w r q) (hmo : okLab m) (hxo : okPol x) (hs : Strs w x.2 vx) (hm : Lbl w m vm)
    (h1 : w.cell? ⟨g1, 0, none⟩ = some vc) (h2 : w.cell? ⟨g1, 1, none⟩ = some (.map (some r))) (h3 : w.cell? ⟨g2, 0, none⟩ = some vm) :
    Calls Tryd.prog 66 #[.agg #[.string x.1, vx], .pointer (some ⟨g2, 0, none⟩), .pointer (some ⟨g1, 0, none⟩)] w fun e w' => e = .returned (.bool (!anyBy m fun p => coversB q p x)) ∧ Below w.heap.size w w' := by
  obtain ⟨ox, rx⟩ := x
  have l1 := cell_lt h1
  have l3 := cell_lt h3
  obtain ⟨bm, om, cm, pm, rfl, hlm, hcm, hpm, hcellsm⟩ := hm.cells
  clear hpm hcellsm
  obtain ⟨W1, eW⟩ : ∃ W1, w.alloc (.cells #[.string ox, vx] 85) = W1 := ⟨_, rfl⟩
  obtain ⟨z1, hW, m1⟩ := boxes1 eW
  have HW := Lib.hid hW
  have HP := Lib.hid hp
  have HZ := Lib.hid z1
  have hc1 := m1 0
  have hc2 := m1 1
  simp only [List.getElem?_toArray, List.getElem?_cons_zero, List.getElem?_cons_succ] at hc1 hc2
  have k1 : W1.cell? ⟨g1, 0, none⟩ = some vc := (hW.cell l1).trans h1
  have k2 : W1.cell? ⟨g1, 1, none⟩ = some (.map (some r)) := (hW.cell (p := ⟨g1, 1, none⟩) l1).trans h2
  have k3 : W1.cell? ⟨g2, 0, none⟩ = some (.slice pm m.length cm) := (hW.cell l3).trans h3
  have HC1 := Lib.hid hc1
  have HC2 := Lib.hid hc2
  have HK1 := Lib.hid k1
  have HK2 := Lib.hid k2
  have l1' : g1 < W1.heap.size := cell_lt k1
  have eg : ∀ args w, (callFunc 67 args).run Tryd.prog w = .ok (.enter 67 args) w := enters_at Tryd.func67 (by kernel_rfl) rfl
  have HEG := Lib.hid eg
  clear m1 hW z1 hp h1 h2 h3 eg hc1 hc2 k1 k2
  go_enter Tryd.func66, Tryd.ntmps66
  go_wp2_with (fail)
  refine (containsPol_calls m _ 67 #[.pointer (some ⟨g1, 0, none⟩), .pointer (some ⟨w.heap.size, 0, none⟩)] (fun p => coversB q p (ox, rx)) _ (hm.stays (keeps_of_below HW.out)) HEG.out ?_).mono ?_
  · intro p hp vp w2 hb2 hr
    have hz := HZ.out
    exact flowsG_calls q vc r p (ox, rx) vp vx g1 w.heap.size w2 (HP.out.below (HW.out.trans (hb2.mono HW.out.size))) (hmo p hp) hxo hr (hs.stays (keeps_of_below (HW.out.trans (hb2.mono HW.out.size))))
      ((hb2.cell (p := ⟨g1, 0, none⟩) l1').trans HK1.out) ((hb2.cell (p := ⟨g1, 1, none⟩) l1').trans HK2.out) ((hb2.cell (p := ⟨w.heap.size, 0, none⟩) (by simp only; omega)).trans HC1.out) ((hb2.cell (p := ⟨w.heap.size, 1, none⟩) (by simp only; omega)).trans HC2.out)
  · rintro e w2 ⟨rfl, hb2⟩
    go_wp2
    go_ret
    exact ⟨rfl, HW.out.trans (hb2.mono HW.out.size)⟩

theorem wflows_calls (l m : Lab) (vl vm : Value) (w : World) (hp : PairsAt w r q) (hlo : okLab l) (hmo : okLab m) (hl : Lbl w l vl) (hm : Lbl w m vm) :
    Calls Tryd.prog 51 #[.agg #[vc, .map (some r)], vl, vm] w fun e w' => e = .returned (.bool (flowsB q l m)) ∧ Below w.heap.size w w' := by
  obtain ⟨bl, ol, cl, pl, rfl, hll, hcl, hpl, hcellsl⟩ := hl.cells
  obtain ⟨bm, om, cm, pm, rfl, hlm, hcm, hpm, hcellsm⟩ := hm.cells
  clear hpm hcellsm hpl hcellsl
  obtain ⟨W3, eW⟩ : ∃ W3, (w.alloc (.cells #[vc, .map (some r)] 92)).alloc (.cells #[.slice pm m.length cm] 50) = W3 := ⟨_, rfl⟩
  obtain ⟨z3, hW, m1, m2⟩ := boxes2 eW
  have HW := Lib.hid hW
  have HP := Lib.hid hp
  have HZ := Lib.hid z3
  have hc1 := m1 0
  have hc2 := m1 1
  have hc3 := m2 0
  simp only [List.getElem?_toArray, List.getElem?_cons_zero, List.getElem?_cons_succ] at hc1 hc2 hc3
  have HC1 := Lib.hid hc1
  have HC2 := Lib.hid hc2
  have HC3 := Lib.hid hc3
  have eg : ∀ args w, (callFunc 66 args).run Tryd.prog w = .ok (.enter 66 args) w := enters_at Tryd.func66 (by kernel_rfl) rfl
  have HEG := Lib.hid eg
  clear m1 m2 hW z3 hp eg
  go_enter Tryd.func51, Tryd.ntmps51
  go_wp2_with (fail)
  refine (containsPol_calls l _ 66 #[.pointer (some ⟨w.heap.size + 1, 0, none⟩), .pointer (some ⟨w.heap.size, 0, none⟩)] (fun x => !anyBy m fun p => coversB q p x) _ (hl.stays (keeps_of_below HW.out)) HEG.out ?_).mono ?_
  · intro x hx vx w2 hb2 hs
    have hz := HZ.out
    have hbw := HW.out.trans (hb2.mono HW.out.size)
    exact flowsF_calls q vc r x m vx _ w.heap.size (w.heap.size + 1) w2 (HP.out.below hbw) hmo (hlo x hx) hs (hm.stays (keeps_of_below hbw))
      ((hb2.cell (p := ⟨w.heap.size, 0, none⟩) (by simp only; omega)).trans HC1.out) ((hb2.cell (p := ⟨w.heap.size, 1, none⟩) (by simp only; omega)).trans HC2.out) ((hb2.cell (p := ⟨w.heap.size + 1, 0, none⟩) (by simp only; omega)).trans HC3.out)
  · rintro e w2 ⟨rfl, hb2⟩
    go_wp2
    go_ret
    exact ⟨rfl, HW.out.trans (hb2.mono HW.out.size)⟩
end

/-- What is wrong with a policy, of these chiefs. -/
def polErr (l : List Txt) (p : Pol) : Int := if 6 < p.2.length then 2 else if (p.1 :: p.2).all (has l) then 0 else 5
/-- What is wrong with a label, of these chiefs. -/
def labErr (l : List Txt) (x : Lab) : Int := if 200 < x.length then 2 else (x.find? fun p => polErr l p != 0).elim 0 (polErr l)
theorem labErr_at {l : List Txt} {x : Lab} (h0 : x.length ≤ 200) {k : Nat} (hk : k < x.length) (h : polErr l x[k] ≠ 0) (hne : ∀ j (hj : j < x.length), j < k → polErr l x[j] = 0) : labErr l x = polErr l x[k] := by
  unfold labErr
  rw [if_neg (by omega)]
  have : x.find? (fun p => polErr l p != 0) = some x[k] := by
    rw [List.find?_eq_some_iff_getElem]
    exact ⟨by simpa using h, k, hk, rfl, fun j hj => by simp [hne j (by omega) hj]⟩
  rw [this]; rfl
theorem labErr_none {l : List Txt} {x : Lab} (h0 : x.length ≤ 200) (hne : ∀ j (hj : j < x.length), polErr l x[j] = 0) : labErr l x = 0 := by
  unfold labErr
  rw [if_neg (by omega)]
  have : x.find? (fun p => polErr l p != 0) = none := by
    rw [List.find?_eq_none]
    intro p hp
    obtain ⟨j, hj, rfl⟩ := List.getElem_of_mem hp
    simp [hne j hj]
  rw [this]; rfl
theorem labErr_zero {l : List Txt} {x : Lab} (h : labErr l x = 0) : x.length ≤ 200 ∧ ∀ p ∈ x, p.2.length ≤ 6 ∧ has l p.1 = true ∧ ∀ s ∈ p.2, has l s = true := by
  unfold labErr at h
  split at h
  · omega
  · refine ⟨by omega, fun p hp => ?_⟩
    have h0 : polErr l p = 0 := by
      apply Decidable.byContradiction
      intro hne
      cases hf : x.find? (fun p => polErr l p != 0) with
      | none =>
        rw [List.find?_eq_none] at hf
        have := hf p hp
        simp at this
        exact hne this
      | some y =>
        rw [hf] at h
        have := List.find?_some hf
        have h' : polErr l y = 0 := h
        simp [h'] at this
    unfold polErr at h0
    split at h0
    · omega
    · split at h0
      · rename_i h1 h2
        simp only [List.all_cons, Bool.and_eq_true, List.all_eq_true] at h2
        exact ⟨by omega, h2.1, h2.2⟩
      · omega
theorem polErr_many {l : List Txt} {p : Pol} (h : 6 < p.2.length) : polErr l p = 2 := by unfold polErr; rw [if_pos h]
theorem polErr_who {l ys : List Txt} {p : Pol} (e : p.1 :: p.2 = ys) (h : ¬ 6 < p.2.length) {k : Nat} (hk : k < ys.length) (hh : has l ys[k] = false) : polErr l p = 5 := by
  subst e
  unfold polErr
  rw [if_neg h, if_neg]
  intro ha
  rw [List.all_eq_true] at ha
  rw [ha _ (List.getElem_mem hk)] at hh
  cases hh
theorem polErr_ok {l ys : List Txt} {p : Pol} (e : p.1 :: p.2 = ys) (h : ¬ 6 < p.2.length) (hh : ∀ k (hk : k < ys.length), has l ys[k] = true) : polErr l p = 0 := by
  subst e
  unfold polErr
  rw [if_neg h, if_pos]
  rw [List.all_eq_true]
  intro s hs
  obtain ⟨k, hk, rfl⟩ := List.getElem_of_mem hs
  exact hh k hk
end Go.Proofs.YtfbieagkhbmgjaaDoor
