/-
  view.Released, view.Begins, cloisterlaw.bare: events alike whatever their labels; what is released.
-/
import Derived.Test.YtfbieagkhbmgjaaDoorViewed
import Derived.Test.YtfbieagkhbmgjaaDoorBytes
import Derived.Maps.AppendAt
namespace Go.Proofs.YtfbieagkhbmgjaaDoor
open Go.RowKit Go.Maps
set_option linter.unusedVariables false
set_option linter.unusedSimpArgs false

/-- Alike lists, whatever the labels. -/
def bareEq (l m : List Evt) : Bool := decide (l.length = m.length) && (List.range l.length).all fun k => alikeE (l.getD k (ByteArray.empty, 0, [])) (m.getD k (ByteArray.empty, 0, []))
theorem evtD {l : List Evt} {k : Nat} (h : k < l.length) : l.getD k (ByteArray.empty, 0, []) = l[k] := by simp [List.getD, h]
theorem bareEq_len {l m : List Evt} (h : l.length ≠ m.length) : bareEq l m = false := by unfold bareEq; simp [h]
theorem bareEq_at {l m : List Evt} {k : Nat} (hk : k < l.length) (hm : k < m.length) (h : alikeE l[k] m[k] = false) : bareEq l m = false := by
  rw [← Bool.not_eq_true]
  unfold bareEq
  rw [Bool.and_eq_true, List.all_eq_true]
  rintro ⟨_, hall⟩
  have := hall k (List.mem_range.2 hk)
  rw [evtD hk, evtD hm, h] at this
  cases this
theorem bareEq_all {l m : List Evt} (hn : l.length = m.length) (h : ∀ k (h1 : k < l.length) (h2 : k < m.length), alikeE l[k] m[k] = true) : bareEq l m = true := by
  unfold bareEq
  rw [Bool.and_eq_true, List.all_eq_true]
  refine ⟨by simpa using hn, fun k hk => ?_⟩
  have hk' := List.mem_range.1 hk
  rw [evtD hk', evtD (by omega)]
  exact h k hk' (by omega)

/-- A function value that tells whether two events are alike. -/
def TellsEv (fn : FuncId) : Prop := ∀ (x y : Evt) (p : Option Addr) (n c : Nat) (p' : Option Addr) (n' c' : Nat) (w : World),
  Calls Tryd.prog fn #[.agg #[.string x.1, .int .i64 x.2.1, .slice p n c], .agg #[.string y.1, .int .i64 y.2.1, .slice p' n' c']] w fun e w' => e = .returned (.bool (alikeE x y)) ∧ Below w.heap.size w w'
theorem beginsF_tells : TellsEv 46 := by
  intro x y p n c p' n' c' w
  obtain ⟨a, i, la⟩ := x
  obtain ⟨b, j, lb⟩ := y
  obtain ⟨W2, eW⟩ : ∃ W2, (w.alloc (.cells #[.string a, .int .i64 i, .slice p n c] 52)).alloc (.cells #[.string b, .int .i64 j, .slice p' n' c'] 52) = W2 := ⟨_, rfl⟩
  obtain ⟨z2, hW, m1, m2⟩ := boxes2 eW
  have h10 := m1 0
  have h11 := m1 1
  have h20 := m2 0
  have h21 := m2 1
  simp only [List.getElem?_toArray, List.getElem?_cons_zero, List.getElem?_cons_succ] at h10 h11 h20 h21
  have HW := Lib.hid hW
  clear m1 m2 hW z2
  by_cases hcd : a = b
  · have HC : Hid (alikeE (a, i, la) (b, j, lb) = (i == j)) := by unfold Hid alikeE; simp [hcd]
    have hcd' : (a.toList == b.toList) = true := bytes_eq.2 hcd
    clear hcd
    cases hnm : i == j
    all_goals
      go_enter Tryd.func46, Tryd.ntmps46
      go_wp2
      go_ret
      exact ⟨by rw [HC.out, hnm]; rfl, HW.out⟩
  · have HC : Hid (alikeE (a, i, la) (b, j, lb) = false) := by unfold Hid alikeE; simp [hcd]
    have hcd' : (a.toList == b.toList) = false := text_ne hcd
    clear hcd
    go_enter Tryd.func46, Tryd.ntmps46
    go_wp2
    go_ret
    exact ⟨by rw [HC.out]; rfl, HW.out⟩
theorem bareF_tells : TellsEv 47 := by
  intro x y p n c p' n' c' w
  obtain ⟨a, i, la⟩ := x
  obtain ⟨b, j, lb⟩ := y
  obtain ⟨W2, eW⟩ : ∃ W2, (w.alloc (.cells #[.string a, .int .i64 i, .slice p n c] 52)).alloc (.cells #[.string b, .int .i64 j, .slice p' n' c'] 52) = W2 := ⟨_, rfl⟩
  obtain ⟨z2, hW, m1, m2⟩ := boxes2 eW
  have h10 := m1 0
  have h11 := m1 1
  have h20 := m2 0
  have h21 := m2 1
  simp only [List.getElem?_toArray, List.getElem?_cons_zero, List.getElem?_cons_succ] at h10 h11 h20 h21
  have HW := Lib.hid hW
  clear m1 m2 hW z2
  by_cases hcd : a = b
  · have HC : Hid (alikeE (a, i, la) (b, j, lb) = (i == j)) := by unfold Hid alikeE; simp [hcd]
    have hcd' : (a.toList == b.toList) = true := bytes_eq.2 hcd
    clear hcd
    cases hnm : i == j
    all_goals
      go_enter Tryd.func47, Tryd.ntmps47
      go_wp2
      go_ret
      exact ⟨by rw [HC.out, hnm]; rfl, HW.out⟩
  · have HC : Hid (alikeE (a, i, la) (b, j, lb) = false) := by unfold Hid alikeE; simp [hcd]
    have hcd' : (a.toList == b.toList) = false := text_ne hcd
    clear hcd
    go_enter Tryd.func47, Tryd.ntmps47
    go_wp2
    go_ret
    exact ⟨by rw [HC.out]; rfl, HW.out⟩

set_option maxHeartbeats 1000000 in
set_option maxRecDepth 100000 in
theorem eqEvB_calls (l m : List Evt) (v u : Value) (fn : FuncId) (w : World) (hv : Evs w l v) (hu : Evs w m u) (ht : TellsEv fn) (eg : ∀ args w, (callFunc fn args).run Tryd.prog w = .ok (.enter fn args) w) :
    Calls Tryd.prog 26 #[v, u, .func (.func fn) #[] #[]] w fun e w' => e = .returned (.bool (bareEq l m)) ∧ Below w.heap.size w w' := by
  obtain ⟨b, o, c, p, rfl, hlc, hc, hp, hcells⟩ := hv.cells
  obtain ⟨b2, o2, c2, p2, rfl, hlc2, hc2, hp2, hcells2⟩ := hu.cells
  have HT := Lib.hid ht
  clear hv hu ht
  by_cases hn : l.length = m.length
  · have HN := Lib.hid hn
    have hn1 : ((l.length : Int) != (m.length : Int)) = false := by simp [hn]
    have hn2 : ((l.length : Int) == (m.length : Int)) = true := by simp [hn]
    clear hn
    go_enter Tryd.func26, Tryd.ntmps26
    go_wp2
    go_loopw [17] (fun i wr => ∃ k : Nat, k ≤ l.length ∧ i = .int .i64 k ∧ Below w.heap.size w wr ∧ Hid (∀ j (h1 : j < l.length) (h2 : j < m.length), j < k → alikeE l[j] m[j] = true)) (fun i _ => l.length - (intOf i).toNat)
    case atStart => exact ⟨0, Nat.zero_le _, rfl, Below.refl _ _, fun j _ _ hj => absurd hj (Nat.not_lt_zero _)⟩
    case round =>
      obtain ⟨k, hk, rfl, hbr, HE⟩ := hrel
      by_cases hlt : k < l.length
      · have hlt2 : k < m.length := by have := HN.out; omega
        obtain ⟨ul, g1, g2, g3, hul⟩ := hcells k hlt
        obtain ⟨um, g4, g5, g6, hum⟩ := hcells2 k hlt2
        obtain ⟨_, _, kl, pl, rfl, _⟩ := hul.cells
        obtain ⟨_, _, km, pm, rfl, _⟩ := hum.cells
        obtain rfl := hp (by omega)
        obtain rfl := hp2 (by omega)
        clear hp hp2 hcells hcells2 hul hum
        have a1 : wr.cell? ⟨b, o + k * 3, none⟩ = some (.string l[k].1) := (hbr.cell (cell_lt g1)).trans g1
        have a2 : wr.cell? ⟨b, o + k * 3 + 1, none⟩ = some (.int .i64 l[k].2.1) := (hbr.cell (cell_lt g2)).trans g2
        have a3 : wr.cell? ⟨b, o + k * 3 + 2, none⟩ = some (.slice pl l[k].2.2.length kl) := (hbr.cell (cell_lt g3)).trans g3
        obtain ⟨W1, eW⟩ : ∃ W1, wr.alloc (.cells #[.string l[k].1, .int .i64 l[k].2.1, .slice pl l[k].2.2.length kl] 52) = W1 := ⟨_, rfl⟩
        obtain ⟨z1, hW1, m1⟩ := boxes1 eW
        have hb1 : Below w.heap.size w W1 := hbr.trans (hW1.mono hbr.size)
        have a4 : W1.cell? ⟨b2, o2 + k * 3, none⟩ = some (.string m[k].1) := (hb1.cell (cell_lt g4)).trans g4
        have a5 : W1.cell? ⟨b2, o2 + k * 3 + 1, none⟩ = some (.int .i64 m[k].2.1) := (hb1.cell (cell_lt g5)).trans g5
        have a6 : W1.cell? ⟨b2, o2 + k * 3 + 2, none⟩ = some (.slice pm m[k].2.2.length km) := (hb1.cell (cell_lt g6)).trans g6
        obtain ⟨W2, eW2⟩ : ∃ W2, W1.alloc (.cells #[.string m[k].1, .int .i64 m[k].2.1, .slice pm m[k].2.2.length km] 52) = W2 := ⟨_, rfl⟩
        obtain ⟨z2, hW2, m2⟩ := boxes1 eW2
        have r1 := m1 0
        have r2 := m1 1
        have r3 := m1 2
        have r4 := m2 0
        have r5 := m2 1
        have r6 := m2 2
        simp only [List.getElem?_toArray, List.getElem?_cons_zero, List.getElem?_cons_succ] at r1 r2 r3 r4 r5 r6
        have r1' : W2.cell? ⟨wr.heap.size, 0, none⟩ = _ := (hW2.cell (cell_lt r1)).trans r1
        have r2' : W2.cell? ⟨wr.heap.size, 1, none⟩ = _ := (hW2.cell (cell_lt r2)).trans r2
        have r3' : W2.cell? ⟨wr.heap.size, 2, none⟩ = _ := (hW2.cell (cell_lt r3)).trans r3
        have HB2 := Lib.hid (hb1.trans (hW2.mono hb1.size))
        have HCALL := Lib.hid (HT.out l[k] m[k] pl l[k].2.2.length kl pm m[k].2.2.length km W2)
        clear r1 r2 r3 m1 m2 hW1 hW2 z1 z2 hb1 hbr g1 g2 g3 g4 g5 g6
        cases hx : alikeE l[k] m[k] with
        | true =>
          have HX := Lib.hid hx
          clear hx
          go_wp2_with (fail)
          refine HCALL.out.mono ?_
          rintro e w3 ⟨rfl, hb3⟩
          rw [HX.out]
          have HB3 := Lib.hid (HB2.out.trans (hb3.mono HB2.out.size))
          clear hb3
          go_wp2
          go_roundw
          case rel =>
            refine ⟨k + 1, by omega, by go_num, HB3.out, fun j h1 h2 hj => ?_⟩
            by_cases e : j = k
            · subst e; exact HX.out
            · exact HE.out j h1 h2 (by omega)
          case measure => simp [intOf]; omega
        | false =>
          have HX : Hid (bareEq l m = false) := bareEq_at hlt hlt2 hx
          have HY := Lib.hid hx
          clear hx
          go_wp2_with (fail)
          refine HCALL.out.mono ?_
          rintro e w3 ⟨rfl, hb3⟩
          rw [HY.out]
          have HB3 := Lib.hid (HB2.out.trans (hb3.mono HB2.out.size))
          clear hb3
          go_wp2
          go_ret
          exact ⟨ret_bool HX.out.symm, HB3.out⟩
      · have HX : Hid (bareEq l m = true) := bareEq_all HN.out fun j h1 h2 => HE.out j h1 h2 (by omega)
        clear hp hp2 hcells hcells2
        go_wp2
        go_ret
        exact ⟨ret_bool HX.out.symm, hbr⟩
  · have HX : Hid (bareEq l m = false) := bareEq_len hn
    have hn1 : ((l.length : Int) != (m.length : Int)) = true := by simp; omega
    have hn2 : ((l.length : Int) == (m.length : Int)) = false := by simp; omega
    clear hn hp hp2 hcells hcells2
    go_enter Tryd.func26, Tryd.ntmps26
    go_wp2
    go_ret
    exact ⟨ret_bool HX.out.symm, Below.refl _ _⟩

/-- Does one list begin the other one? -/
def beginsB (l m : List Evt) : Bool := decide (l.length ≤ m.length) && bareEq l (m.take l.length)
set_option maxHeartbeats 800000 in
theorem begins_calls (l m : List Evt) (v u : Value) (w : World) (hv : Evs w l v) (hu : Evs w m u) :
    Calls Tryd.prog 24 #[v, u] w fun e w' => e = .returned (.bool (beginsB l m)) ∧ Below w.heap.size w w' := by
  have hv0 := hv
  have hu0 := hu
  obtain ⟨b, o, c, p, rfl, hlc, hc, hp, hcells⟩ := hv.cells
  obtain ⟨b2, o2, c2, p2, rfl, hlc2, hc2, hp2, hcells2⟩ := hu.cells
  have eg : ∀ args w, (callFunc 46 args).run Tryd.prog w = .ok (.enter 46 args) w := enters_at Tryd.func46 (by kernel_rfl) rfl
  have HEG := Lib.hid eg
  clear eg hv hu hp hcells hp2 hcells2
  by_cases h : l.length ≤ m.length
  · have HX : Hid (beginsB l m = bareEq l (m.take l.length)) := by unfold Hid beginsB; simp [h]
    have h1 : (l.length : Int) ≤ (m.length : Int) := by omega
    have HTK : Hid (Evs w (m.take l.length) (.slice p2 l.length c2)) := SliceOf.take hu0 l.length h
    go_enter Tryd.func24, Tryd.ntmps24
    go_wp2_with (fail)
    refine (eqEvB_calls l (m.take l.length) _ _ 46 _ hv0 HTK.out beginsF_tells HEG.out).mono ?_
    rintro e w1 ⟨rfl, hb⟩
    go_wp2
    go_ret
    exact ⟨ret_bool HX.out.symm, hb⟩
  · have HX : Hid (beginsB l m = false) := by unfold Hid beginsB; simp [h]
    have h1 : ¬ (l.length : Int) ≤ (m.length : Int) := by omega
    go_enter Tryd.func24, Tryd.ntmps24
    go_wp2
    go_ret
    exact ⟨ret_bool HX.out.symm, Below.refl _ _⟩
theorem bare_calls (l m : List Evt) (v u : Value) (w : World) (hv : Evs w l v) (hu : Evs w m u) :
    Calls Tryd.prog 25 #[v, u] w fun e w' => e = .returned (.bool (bareEq l m)) ∧ Below w.heap.size w w' := by
  have hv0 := hv
  have hu0 := hu
  obtain ⟨b, o, c, p, rfl, hlc, hc, hp, hcells⟩ := hv.cells
  obtain ⟨b2, o2, c2, p2, rfl, hlc2, hc2, hp2, hcells2⟩ := hu.cells
  have eg : ∀ args w, (callFunc 47 args).run Tryd.prog w = .ok (.enter 47 args) w := enters_at Tryd.func47 (by kernel_rfl) rfl
  have HEG := Lib.hid eg
  clear eg hv hu hp hcells hp2 hcells2
  go_enter Tryd.func25, Tryd.ntmps25
  go_wp2_with (fail)
  refine (eqEvB_calls l m _ _ 47 _ hv0 hu0 bareF_tells HEG.out).mono ?_
  rintro e w1 ⟨rfl, hb⟩
  go_wp2
  go_ret
  exact ⟨rfl, hb⟩

/-- In blocks of their own. -/
def ApartV (a b : Value) : Prop := ∀ q, a.ownBlock = some q → b.ownBlock ≠ some q
theorem ApartV.symm {a b : Value} (h : ApartV a b) : ApartV b a := fun q h1 h2 => h q h2 h1
theorem own_apart {W w' : World} {base : Nat} {e : TypeId} {size : Nat} {r v : Value} {n : Nat} {xs : List Value} (h : W.ownsRow base e size v n xs) (hap : ApartV r v) (hg : W.grownBy w' r.ownBlock) : w'.ownsRow base e size v n xs :=
  h.kept hg (by
    cases e1 : v.ownBlock with
    | none => exact .inl rfl
    | some g => exact .inr fun e2 => hap g e2.symm e1)
theorem apart_grown {W : World} {base : Nat} {e : TypeId} {size : Nat} {r r' v : Value} {n : Nat} {xs : List Value} (h : W.ownsRow base e size v n xs) (hap : ApartV r v) {m : Nat} (hm : W.heap.size ≤ m) (hat : r'.ownBlock = r.ownBlock ∨ r'.ownBlock = some m) : ApartV r' v := by
  intro q h1 h2
  rcases hat with h3 | h3
  · rw [h3] at h1; exact hap q h1 h2
  · rw [h3] at h1
    have := (h.lt q h2).2
    simp at h1
    omega

/-- Releases of the first events; the others. -/
def isRel (x : Evt) : Bool := x.1 == ByteArray.empty
def relTo (x : List Evt) (k : Nat) : List Evt := (x.take k).filter isRel
def othTo (x : List Evt) (k : Nat) : List Evt := (x.take k).filter fun e => !isRel e
theorem relTo_le (x : List Evt) (k : Nat) : (relTo x k).length ≤ k := Nat.le_trans (List.length_filter_le _ _) (List.length_take_le _ _)
theorem othTo_le (x : List Evt) (k : Nat) : (othTo x k).length ≤ k := Nat.le_trans (List.length_filter_le _ _) (List.length_take_le _ _)
theorem rel_hit {x : List Evt} {k : Nat} (hk : k < x.length) (h : isRel x[k] = true) : relTo x (k + 1) = relTo x k ++ [x[k]] ∧ othTo x (k + 1) = othTo x k := by
  unfold relTo othTo; rw [List.take_succ_eq_append_getElem hk, List.filter_append, List.filter_append]; simp [h]
theorem rel_miss {x : List Evt} {k : Nat} (hk : k < x.length) (h : isRel x[k] = false) : relTo x (k + 1) = relTo x k ∧ othTo x (k + 1) = othTo x k ++ [x[k]] := by
  unfold relTo othTo; rw [List.take_succ_eq_append_getElem hk, List.filter_append, List.filter_append]; simp [h]
theorem own_evs {w : World} {base : Nat} {e : TypeId} {v : Value} {x : List Evt} (h : w.ownsRow base e 3 v x.length (x.flatMap evCells)) : Evs w (x.map bareEv) v := by
  have e1 : x.length = (x.map bareEv).length := by simp
  rw [e1] at h
  exact SliceOf.of_rows h (ev_rows _ _)

set_option maxHeartbeats 1600000 in
set_option maxRecDepth 100000 in
theorem released_calls (x : List Evt) (v : Value) (w : World) (hv : Evs w x v) (hn : x.length * 48 ≤ 140737488351232) :
    Calls Tryd.prog 22 #[v] w fun e w' => ∃ r o, e = .returned (.tuple #[r, o]) ∧ Evs w' ((relTo x x.length).map bareEv) r ∧ Evs w' ((othTo x x.length).map bareEv) o ∧ Below w.heap.size w w' := by
  obtain ⟨b, o, c, p, rfl, hlc, hc, hp, hcells⟩ := hv.cells
  obtain ⟨t0, hi, hz0, hz1, hz2⟩ := info_parts Tryd.info_event
  have HPP := Lib.hid hp
  have HCE := Lib.hid hcells
  clear hv hp hcells
  go_enter Tryd.func22, Tryd.ntmps22
  go_wp2
  go_loopw [2, 3, 8] (fun r o i ws => ∃ (k : Nat) (wo : World) (rv ov : Value), k ≤ x.length ∧ i = .int .i64 k ∧ wo = ws ∧ rv = r ∧ ov = o ∧ Hid (Below w.heap.size w wo) ∧ Hid (wo.ownsRow w.heap.size 52 3 rv (relTo x k).length ((relTo x k).flatMap evCells)) ∧ Hid (wo.ownsRow w.heap.size 52 3 ov (othTo x k).length ((othTo x k).flatMap evCells)) ∧ Hid (ApartV rv ov)) (fun _ _ i _ => x.length - (intOf i).toNat)
  case atStart => exact ⟨0, _, _, _, Nat.zero_le _, rfl, rfl, rfl, rfl, Below.refl _ _, World.ownsRow_nil _ _ _ _, World.ownsRow_nil _ _ _ _, fun q h => by cases h⟩
  case round =>
    obtain ⟨k, wo, rv, ov, hk, rfl, rfl, rfl, rfl, HB, HR, HO, HA⟩ := hrel
    by_cases hlt : k < x.length
    · obtain ⟨ul, g1, g2, g3, hul⟩ := HCE.out k hlt
      obtain ⟨_, _, kl, pl, rfl, _⟩ := hul.cells
      have hcell1 : wo.cell? ⟨b, o + k * 3, none⟩ = some (.string x[k].1) := (HB.out.cell (cell_lt g1)).trans g1
      have hcell2 : wo.cell? ⟨b, o + k * 3 + 1, none⟩ = some (.int .i64 x[k].2.1) := (HB.out.cell (cell_lt g2)).trans g2
      have hcell3 : wo.cell? ⟨b, o + k * 3 + 2, none⟩ = some (.slice pl x[k].2.2.length kl) := (HB.out.cell (cell_lt g3)).trans g3
      obtain rfl := HPP.out (by omega)
      obtain ⟨W1, eW⟩ : ∃ W1, wo.alloc (.cells #[.string x[k].1, .int .i64 x[k].2.1, .slice pl x[k].2.2.length kl] 52) = W1 := ⟨_, rfl⟩
      obtain ⟨z1, hW1, m1⟩ := boxes1 eW
      have r1 := m1 0
      have r2 := m1 1
      simp only [List.getElem?_toArray, List.getElem?_cons_zero, List.getElem?_cons_succ] at r1 r2
      have HB1 : Hid (Below w.heap.size w W1) := HB.out.trans (hW1.mono HB.out.size)
      have hR1 := own_below HR.out hW1
      have hO1 := own_below HO.out hW1
      have hle1 := relTo_le x k
      have hle2 := othTo_le x k
      have hsz1 := HB1.out.size
      clear g1 g2 g3 hul m1 hW1 z1
      cases hq : isRel x[k] with
      | true =>
        have hx : x[k].1 = ByteArray.empty := eq_of_beq hq
        have HXC : Hid (evCells x[k] = [.string ByteArray.empty, .int .i64 x[k].2.1, .slice none 0 0]) := by unfold Hid evCells; rw [hx]
        have HH := Lib.hid (rel_hit hlt hq)
        have q1 : x[k].1.toList = [] := by rw [hx, Lib.toList_data]; rfl
        have q2 : x[k].1.toList.isEmpty = true := by rw [q1]; rfl
        have HO1 := Lib.hid hO1
        clear hq hx hO1
        go_wp2_with (at_builtin; refine wpList_append_own_at _ rfl _ _ 43 rfl w.heap.size 52 t0 (.agg #[.string ByteArray.empty, .int .i64 0, .slice none 0 0]) 3 48 Tryd.underlying43 hi hz0 hz1 hz2 rfl (by decide) _ _ _ rfl (hR1.alloc _) ⟨W1.heap.size, 0, none⟩ 1 1 [.string ByteArray.empty, .int .i64 x[k].2.1, .slice none 0 0] rfl rfl ?c1 ?c2 ?c3 ?c4 ?c5 ?_)
        case c1 =>
          intro j u hj
          match j, hj with
          | 0, hj => simp at hj; subst hj; simp [Addr.add]; try rfl
          | 1, hj => simp at hj; subst hj; simp [Addr.add]
          | 2, hj => simp at hj; subst hj; simp [Addr.add]
        case c2 => first | exact ⟨rfl, rfl, rfl⟩ | (intro u hu; simp at hu; rcases hu with rfl | rfl | rfl <;> rfl)
        case c3 => unfold maxLen; omega
        case c4 => omega
        case c5 => first | omega | (simp; omega)
        · intro v' w2 hown' hgrow _ hat
          have HAP : Hid (ApartV v' ov) := apart_grown HO1.out HA.out (by omega) hat
          have HOO : Hid (w2.ownsRow w.heap.size 52 3 ov (othTo x k).length ((othTo x k).flatMap evCells)) := own_apart (HO1.out.alloc _) HA.out hgrow
          clear hat
          go_wp2
          go_roundw
          case rel =>
            refine ⟨k + 1, _, _, _, by omega, by go_num, rfl, rfl, rfl, (HB1.out.alloc HB1.out.size _).grown hgrow (by simp; omega) (fun q hq => (hR1.lt q hq).1), ?_, ?_, HAP.out⟩
            · unfold Hid
              rw [HH.out.1, List.length_append, List.flatMap_append, List.flatMap_cons, List.flatMap_nil, List.append_nil, HXC.out]
              exact hown'
            · unfold Hid
              rw [HH.out.2]
              exact HOO.out
          case measure => simp [intOf]; omega
      | false =>
        have HH := Lib.hid (rel_miss hlt hq)
        have hne : x[k].1 ≠ ByteArray.empty := fun e => by rw [isRel, e] at hq; simp at hq
        have hne2 : x[k].1.toList ≠ [] := fun e => hne (txt_ext (by rw [Lib.toList_data] at e; exact e))
        have q1 : ¬ x[k].1.toList = [] := hne2
        have q2 : x[k].1.toList.isEmpty = false := by
          cases h : x[k].1.toList with
          | nil => exact absurd h hne2
          | cons => rfl
        have HR1 := Lib.hid hR1
        clear hq hne hne2 hR1
        go_wp2_with (at_builtin; refine wpList_append_own_at _ rfl _ _ 43 rfl w.heap.size 52 t0 (.agg #[.string ByteArray.empty, .int .i64 0, .slice none 0 0]) 3 48 Tryd.underlying43 hi hz0 hz1 hz2 rfl (by decide) _ _ _ rfl (hO1.alloc _) ⟨W1.heap.size, 0, none⟩ 1 1 (evCells x[k]) rfl rfl ?c1 ?c2 ?c3 ?c4 ?c5 ?_)
        case c1 =>
          intro j u hj
          match j, hj with
          | 0, hj => simp [evCells] at hj; subst hj; simp [Addr.add]
          | 1, hj => simp [evCells] at hj; subst hj; simp [Addr.add]
          | 2, hj => simp [evCells] at hj; subst hj; simp [Addr.add]
        case c2 => intro u hu; simp [evCells] at hu; rcases hu with rfl | rfl | rfl <;> rfl
        case c3 => unfold maxLen; omega
        case c4 => omega
        case c5 => first | omega | (simp; omega)
        · intro v' w2 hown' hgrow _ hat
          have HAP : Hid (ApartV v' rv) := apart_grown HR1.out HA.out.symm (by omega) hat
          have HOO : Hid (w2.ownsRow w.heap.size 52 3 rv (relTo x k).length ((relTo x k).flatMap evCells)) := own_apart (HR1.out.alloc _) HA.out.symm hgrow
          clear hat
          go_wp2
          go_roundw
          case rel =>
            refine ⟨k + 1, _, _, _, by omega, by go_num, rfl, rfl, rfl, (HB1.out.alloc HB1.out.size _).grown hgrow (by simp; omega) (fun q hq => (hO1.lt q hq).1), ?_, ?_, HAP.out.symm⟩
            · unfold Hid
              rw [HH.out.1]
              exact HOO.out
            · unfold Hid
              rw [HH.out.2, List.length_append, List.flatMap_append, List.flatMap_cons, List.flatMap_nil, List.append_nil]
              exact hown'
          case measure => simp [intOf]; omega
    · obtain rfl : k = x.length := by omega
      go_wp2
      go_ret2
      exact ⟨_, _, rfl, own_evs HR.out, own_evs HO.out, HB.out⟩
end Go.Proofs.YtfbieagkhbmgjaaDoor
