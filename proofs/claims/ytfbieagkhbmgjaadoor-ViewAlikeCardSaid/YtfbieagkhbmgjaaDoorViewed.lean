/-
  cloisterlaw.same, slices.EqualFunc over events, cloisterlaw.viewed (a closed fact).
-/
import Derived.Test.YtfbieagkhbmgjaaDoorView
import Derived.Test.YtfbieagkhbmgjaaDoorLabelled
namespace Go.Proofs.YtfbieagkhbmgjaaDoor
open Go.RowKit Go.Maps
set_option linter.unusedVariables false
set_option linter.unusedSimpArgs false

theorem eqPol0_calls (fn : FuncId) (p p' : Option Addr) (c c' : Nat) (w : World) :
    Calls Tryd.prog 64 #[.slice p 0 c, .slice p' 0 c', .func (.func fn) #[] #[]] w fun e w' => e = .returned (.bool true) ∧ Below w.heap.size w w' := by
  go_enter Tryd.func64, Tryd.ntmps64
  go_wp2
  go_loopw [7, 8, 9, 17] (fun _ _ _ i wr => i = .int .i64 0 ∧ wr = w) (fun _ _ _ _ _ => 0)
  case atStart => exact ⟨rfl, rfl⟩
  case round =>
    obtain ⟨rfl, rfl⟩ := hrel
    go_wp2
    go_ret
    exact ⟨rfl, Below.refl _ _⟩

theorem sameLabel0_calls (p p' : Option Addr) (c c' : Nat) (w : World) :
    Calls Tryd.prog 48 #[.slice p 0 c, .slice p' 0 c'] w fun e w' => e = .returned (.bool true) ∧ Below w.heap.size w w' := by
  go_enter Tryd.func48, Tryd.ntmps48
  go_wp2_with (fail)
  refine (eqPol0_calls _ _ _ _ _ _).mono ?_
  rintro e w1 ⟨rfl, hb⟩
  go_wp2
  go_ret
  exact ⟨rfl, hb⟩

/-- Alike, as an event without a label is. -/
def alikeE (x y : Evt) : Bool := x.1 == y.1 && x.2.1 == y.2.1

set_option maxHeartbeats 1000000 in
theorem same_calls (c d : Txt) (n m : Int) (p p' : Option Addr) (k k' : Nat) (w : World) :
    Calls Tryd.prog 27 #[.agg #[.string c, .int .i64 n, .slice p 0 k], .agg #[.string d, .int .i64 m, .slice p' 0 k']] w fun e w' => e = .returned (.bool (c == d && n == m)) ∧ Below w.heap.size w w' := by
  obtain ⟨W2, eW⟩ : ∃ W2, (w.alloc (.cells #[.string c, .int .i64 n, .slice p 0 k] 52)).alloc (.cells #[.string d, .int .i64 m, .slice p' 0 k'] 52) = W2 := ⟨_, rfl⟩
  obtain ⟨z2, hW, m1, m2⟩ := boxes2 eW
  have h10 := m1 0
  have h11 := m1 1
  have h12 := m1 2
  have h20 := m2 0
  have h21 := m2 1
  have h22 := m2 2
  simp only [List.getElem?_toArray, List.getElem?_cons_zero, List.getElem?_cons_succ] at h10 h11 h12 h20 h21 h22
  have HW := Lib.hid hW
  clear m1 m2 hW z2
  by_cases hcd : c = d
  · have HC : Hid ((c == d) = true) := by unfold Hid; simpa using hcd
    have hcd' : (c.toList == d.toList) = true := bytes_eq.2 hcd
    clear hcd
    cases hnm : n == m with
    | true =>
      go_enter Tryd.func27, Tryd.ntmps27
      go_wp2_with (fail)
      refine (sameLabel0_calls _ _ _ _ _).mono ?_
      rintro e w1 ⟨rfl, hb⟩
      go_wp2
      go_ret
      exact ⟨by rw [HC.out]; rfl, HW.out.trans (hb.mono HW.out.size)⟩
    | false =>
      go_enter Tryd.func27, Tryd.ntmps27
      go_wp2
      go_ret
      exact ⟨by rw [HC.out]; rfl, HW.out⟩
  · have HC : Hid ((c == d) = false) := by unfold Hid; simpa using hcd
    have hcd' : (c.toList == d.toList) = false := text_ne hcd
    clear hcd
    go_enter Tryd.func27, Tryd.ntmps27
    go_wp2
    go_ret
    exact ⟨by rw [HC.out]; rfl, HW.out⟩

/-- The cells of a list of events without labels. -/
theorem Evs.bare {w : World} {l : List Evt} {v : Value} (h : Evs w l v) (h0 : ∀ x ∈ l, x.2.2 = []) :
    ∃ b o c p, v = .slice p l.length c ∧ l.length ≤ c ∧ c ≤ 9223372036854775807 ∧ (0 < l.length → p = some ⟨b, o, none⟩) ∧
      ∀ (i : Nat) (h : i < l.length), ∃ q d, w.cell? ⟨b, o + i * 3, none⟩ = some (.string l[i].1) ∧ w.cell? ⟨b, o + i * 3 + 1, none⟩ = some (.int .i64 l[i].2.1) ∧ w.cell? ⟨b, o + i * 3 + 2, none⟩ = some (.slice q 0 d) := by
  obtain ⟨b, o, c, p, e, h1, h2, h3, h4⟩ := h.cells
  refine ⟨b, o, c, p, e, h1, h2, h3, fun i hi => ?_⟩
  obtain ⟨u, q1, q2, q3, q4⟩ := h4 i hi
  rw [h0 _ (List.getElem_mem hi)] at q4
  obtain ⟨_, _, d, q, rfl, _⟩ := q4.cells
  exact ⟨q, d, q1, q2, q3⟩

set_option maxHeartbeats 1000000 in
theorem eqEv_calls (l : List Evt) (v u : Value) (w : World) (hv : Evs w l v) (hu : Evs w l u) (h0 : ∀ x ∈ l, x.2.2 = []) :
    Calls Tryd.prog 26 #[v, u, .func (.func 27) #[] #[]] w fun e w' => e = .returned (.bool true) ∧ Below w.heap.size w w' := by
  obtain ⟨b, o, c, p, rfl, hlc, hc, hp, hcells⟩ := hv.bare h0
  obtain ⟨b2, o2, c2, p2, rfl, hlc2, hc2, hp2, hcells2⟩ := hu.bare h0
  have eg : ∀ args w, (callFunc 27 args).run Tryd.prog w = .ok (.enter 27 args) w := enters_at Tryd.func27 (by kernel_rfl) rfl
  clear hv hu h0
  have hn1 : ((l.length : Int) != (l.length : Int)) = false := by simp
  have hn2 : ((l.length : Int) == (l.length : Int)) = true := by simp
  go_enter Tryd.func26, Tryd.ntmps26
  go_wp2
  go_loopw [7, 8, 9, 17] (fun _ _ _ i wr => ∃ k : Nat, k ≤ l.length ∧ i = .int .i64 k ∧ Below w.heap.size w wr) (fun _ _ _ i _ => l.length - (intOf i).toNat)
  case atStart => exact ⟨0, Nat.zero_le _, rfl, Below.refl _ _⟩
  case round =>
    obtain ⟨k, hk, rfl, hbr⟩ := hrel
    by_cases hlt : k < l.length
    · obtain ⟨q, d, g1, g2, g3⟩ := hcells k hlt
      obtain ⟨q', d', g4, g5, g6⟩ := hcells2 k hlt
      obtain rfl := hp (by omega)
      obtain rfl := hp2 (by omega)
      clear hp hp2 hcells hcells2
      have HG4 := Lib.hid (cell_lt g4)
      have a1 : wr.cell? ⟨b, o + k * 3, none⟩ = some (.string l[k].1) := (hbr.cell (cell_lt g1)).trans g1
      have a2 : wr.cell? ⟨b, o + k * 3 + 1, none⟩ = some (.int .i64 l[k].2.1) := (hbr.cell (cell_lt g2)).trans g2
      have a3 : wr.cell? ⟨b, o + k * 3 + 2, none⟩ = some (.slice q 0 d) := (hbr.cell (cell_lt g3)).trans g3
      obtain ⟨W1, eW⟩ : ∃ W1, wr.alloc (.cells #[.string l[k].1, .int .i64 l[k].2.1, .slice q 0 d] 52) = W1 := ⟨_, rfl⟩
      obtain ⟨z1, hW1, m1⟩ := boxes1 eW
      have hb1 : Below w.heap.size w W1 := hbr.trans (hW1.mono hbr.size)
      have a4 : W1.cell? ⟨b2, o2 + k * 3, none⟩ = some (.string l[k].1) := (hb1.cell (cell_lt g4)).trans g4
      have a5 : W1.cell? ⟨b2, o2 + k * 3 + 1, none⟩ = some (.int .i64 l[k].2.1) := (hb1.cell (cell_lt g5)).trans g5
      have a6 : W1.cell? ⟨b2, o2 + k * 3 + 2, none⟩ = some (.slice q' 0 d') := (hb1.cell (cell_lt g6)).trans g6
      obtain ⟨W2, eW2⟩ : ∃ W2, W1.alloc (.cells #[.string l[k].1, .int .i64 l[k].2.1, .slice q' 0 d'] 52) = W2 := ⟨_, rfl⟩
      obtain ⟨z2, hW2, m2⟩ := boxes1 eW2
      have r1 := m1 0
      have r2 := m1 1
      have r3 := m1 2
      have r4 := m2 0
      have r5 := m2 1
      have r6 := m2 2
      simp only [List.getElem?_toArray, List.getElem?_cons_zero, List.getElem?_cons_succ] at r1 r2 r3 r4 r5 r6
      have r1' : W2.cell? ⟨wr.heap.size, 0, none⟩ = _ := (hW2.cell (cell_lt r1)).trans r1
      have r2' : W2.cell? ⟨wr.heap.size, 1, none⟩ = _ := (hW2.cell (cell_lt r2)).trans r2
      have r3' : W2.cell? ⟨wr.heap.size, 2, none⟩ = _ := (hW2.cell (cell_lt r3)).trans r3
      have HB2 := Lib.hid (hb1.trans (hW2.mono hb1.size))
      clear r1 r2 r3 m1 m2 hW1 hW2 z1 z2 hb1 hbr g1 g2 g3 g4 g5 g6
      go_wp2_with (fail)
      refine (same_calls l[k].1 l[k].1 l[k].2.1 l[k].2.1 _ _ _ _ _).mono ?_
      rintro e w3 ⟨rfl, hb3⟩
      have e1 : (l[k].1 == l[k].1 && l[k].2.1 == l[k].2.1) = true := by simp
      rw [e1]
      clear e1
      have HB3 := Lib.hid (HB2.out.trans (hb3.mono HB2.out.size))
      clear hb3
      go_wp2
      go_roundw
      case rel => exact ⟨k + 1, by omega, by go_num, HB3.out⟩
      case measure => simp [intOf]; omega
    · clear hp hp2 hcells hcells2
      go_wp2
      go_ret
      exact ⟨rfl, hbr⟩

def twoE : List Evt := [(⟨#[120]⟩, 1, [(aT, [])]), (⟨#[121]⟩, 2, [])]
def oneE : List Evt := [(⟨#[121]⟩, 2, [])]
theorem two_seen : seenE abL [] bT twoE = 0 ∧ seenR abL [] bT twoE = oneE := by decide +kernel
theorem twoE_ok : okList okEvt twoE := fun p hp => by
  simp [twoE] at hp
  rcases hp with rfl | rfl
  · exact ⟨by unfold okTxt; decide, by unfold okNum; decide, fun s hs => by simp at hs; subst hs; exact ⟨by unfold okTxt; decide, fun s hs => by simp at hs⟩⟩
  · exact ⟨by unfold okTxt; decide, by unfold okNum; decide, fun s hs => by simp at hs⟩

set_option maxHeartbeats 1000000 in
theorem viewed_calls (w : World) : Calls Tryd.prog 23 #[] w fun e w' => e = .returned (.bool true) ∧ Below w.heap.size w w' := by
  obtain ⟨W3, eW⟩ : ∃ W3, ((w.alloc (.cells #[.string ⟨#[97]⟩, .string ⟨#[98]⟩] 9)).alloc (.cells #[.string ⟨#[97]⟩, .slice none 0 0] 85)).alloc (.cells #[.string ⟨#[120]⟩, .int .i64 1, .slice (some ⟨w.heap.size + 1, 0, none⟩) 1 1, .string ⟨#[121]⟩, .int .i64 2, .slice none 0 0] 52) = W3 := ⟨_, rfl⟩
  obtain ⟨z3, hW, m1, m2, m3⟩ := boxes3 eW
  have hS : Strs W3 abL (.slice (some ⟨w.heap.size, 0, none⟩) 2 2) := by
    refine ⟨_, _, rfl, by decide, by unfold maxLen; decide, Or.inr ⟨_, 0, rfl, fun i hi => ?_⟩⟩
    match i, hi with
    | 0, _ => exact ⟨[.string aT], rfl, rfl, fun j x hx => by match j, hx with | 0, hx => simp at hx; subst hx; exact m1 0⟩
    | 1, _ => exact ⟨[.string bT], rfl, rfl, fun j x hx => by match j, hx with | 0, hx => simp at hx; subst hx; exact m1 1⟩
  have hA : Lbl W3 [(aT, [])] (.slice (some ⟨w.heap.size + 1, 0, none⟩) 1 1) := by
    refine ⟨_, _, rfl, by decide, by unfold maxLen; decide, Or.inr ⟨_, 0, rfl, fun i hi => ?_⟩⟩
    match i, hi with
    | 0, _ =>
      refine ⟨[.string aT, .slice none 0 0], ⟨[.string aT], _, rfl, rfl, ⟨_, rfl, nil_reads _ _ _⟩⟩, rfl, fun j x hx => ?_⟩
      match j, hx with
      | 0, hx => simp at hx; subst hx; exact m2 0
      | 1, hx => simp at hx; subst hx; exact m2 1
  have hE : Evs W3 twoE (.slice (some ⟨w.heap.size + 1 + 1, 0, none⟩) 2 2) := by
    refine ⟨_, _, rfl, by decide, by unfold maxLen; decide, Or.inr ⟨_, 0, rfl, fun i hi => ?_⟩⟩
    match i, hi with
    | 0, _ =>
      refine ⟨[.string ⟨#[120]⟩, .int .i64 1, .slice (some ⟨w.heap.size + 1, 0, none⟩) 1 1], ⟨[.string ⟨#[120]⟩], _, rfl, rfl, ⟨[.int .i64 1], _, rfl, rfl, ⟨_, rfl, hA⟩⟩⟩, rfl, fun j x hx => ?_⟩
      match j, hx with
      | 0, hx => simp at hx; subst hx; exact m3 0
      | 1, hx => simp at hx; subst hx; exact m3 1
      | 2, hx => simp at hx; subst hx; exact m3 2
    | 1, _ =>
      refine ⟨[.string ⟨#[121]⟩, .int .i64 2, .slice none 0 0], ⟨[.string ⟨#[121]⟩], _, rfl, rfl, ⟨[.int .i64 2], _, rfl, rfl, ⟨_, rfl, nil_reads _ _ _⟩⟩⟩, rfl, fun j x hx => ?_⟩
      match j, hx with
      | 0, hx => simp at hx; subst hx; exact m3 3
      | 1, hx => simp at hx; subst hx; exact m3 4
      | 2, hx => simp at hx; subst hx; exact m3 5
  have HW := Lib.hid hW
  have HS := Lib.hid hS
  have HE := Lib.hid hE
  clear hW hS hA hE z3 m1 m2 m3
  go_enter Tryd.func23, Tryd.ntmps23
  go_wp2_with (fail)
  refine (seen_calls abL [] bT twoE _ _ _ _ HS.out (nil_reads _ _ _) HE.out ab_ok twoE_ok).mono ?_
  rintro e w4 ⟨y, rfl, hy, hb4⟩
  rw [two_seen.1]
  rw [two_seen.2] at hy
  have HY := Lib.hid hy
  obtain ⟨b, o, c, p, rfl, hlc, hcm, hp, _⟩ := hy.cells
  obtain rfl := hp (by decide)
  have HB4 := Lib.hid (HW.out.trans (hb4.mono HW.out.size))
  clear hy hb4
  obtain ⟨W5, eW5⟩ : ∃ W5, w4.alloc (.cells #[.string ⟨#[121]⟩, .int .i64 2, .slice none 0 0] 52) = W5 := ⟨_, rfl⟩
  obtain ⟨z5, hW5, m5⟩ := boxes1 eW5
  have HO : Hid (Evs W5 oneE (.slice (some ⟨w4.heap.size, 0, none⟩) 1 1)) := by
    refine ⟨_, _, rfl, by decide, by unfold maxLen; decide, Or.inr ⟨_, 0, rfl, fun i hi => ?_⟩⟩
    match i, hi with
    | 0, _ =>
      refine ⟨[.string ⟨#[121]⟩, .int .i64 2, .slice none 0 0], ⟨[.string ⟨#[121]⟩], _, rfl, rfl, ⟨[.int .i64 2], _, rfl, rfl, ⟨_, rfl, nil_reads _ _ _⟩⟩⟩, rfl, fun j x hx => ?_⟩
      match j, hx with
      | 0, hx => simp at hx; subst hx; exact m5 0
      | 1, hx => simp at hx; subst hx; exact m5 1
      | 2, hx => simp at hx; subst hx; exact m5 2
  have HW5 := Lib.hid hW5
  clear z5 hW5 m5
  go_wp2_with (fail)
  refine (eqEv_calls oneE _ _ _ (HY.out.stays (keeps_of_below HW5.out)) HO.out (fun x hx => by simp [oneE] at hx; subst hx; rfl)).mono ?_
  rintro e w6 ⟨rfl, hb6⟩
  have HEND := Lib.hid ((HB4.out.trans (HW5.out.mono HB4.out.size)).trans (hb6.mono (HB4.out.trans (HW5.out.mono HB4.out.size)).size))
  clear hb6
  go_wp2
  go_ret
  exact ⟨rfl, HEND.out⟩
end Go.Proofs.YtfbieagkhbmgjaaDoor
