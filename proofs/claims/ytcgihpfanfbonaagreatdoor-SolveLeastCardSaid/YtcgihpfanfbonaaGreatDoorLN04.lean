/-
  label.among: who of all chiefs acts for whom, as a set of pairs. label.Flows and label.Reads. Plain laws on labels: what may go on may go; whoever acts for more. Plain law: the normal form of a label. Plain law: normal forms step by step.
-/
import Derived.Test.YtcgihpfanfbonaaGreatDoorLN03
import Derived.Test.YtcgihpfanfbonaaGreatDoorLN02
namespace Go.Proofs.YtcgihpfanfbonaaGreatDoor
open Go.RowKit Go.Maps
set_option linter.unusedVariables false
set_option linter.unusedSimpArgs false

theorem grown_below {w a b : World} {M : Option Nat} (h : w.grownBy a M) (hb : Below a.heap.size a b) : w.grownBy b M :=
  ⟨hb.os.trans h.os, hb.tape.trans h.tape, hb.output.trans h.output, Nat.le_trans h.size hb.size, fun k hk hne => (hb.block k (Nat.lt_of_lt_of_le hk h.size)).trans (h.block k hk hne)⟩
theorem grown_grown {w a b : World} {M : Option Nat} (h : w.grownBy a M) (h' : a.grownBy b M) : w.grownBy b M :=
  ⟨h'.os.trans h.os, h'.tape.trans h.tape, h'.output.trans h.output, Nat.le_trans h.size h'.size, fun k hk hne => (h'.block k (Nat.lt_of_lt_of_le hk h.size) hne).trans (h.block k hk hne)⟩
theorem grown_cell {w a : World} {M : Option Nat} (h : w.grownBy a M) {b o : Nat} {v : Value} (hc : w.cell? ⟨b, o, none⟩ = some v) (hne : some b ≠ M) : a.cell? ⟨b, o, none⟩ = some v :=
  (World.cell?_of_block (w := w) (h.block b (cell_lt hc) hne)).trans hc
theorem grown_frozen {w a : World} {M : Option Nat} (h : w.grownBy a M) {b o : Nat} (hb : b < w.heap.size) (hne : some b ≠ M) : a.frozen? ⟨b, o, none⟩ = w.frozen? ⟨b, o, none⟩ :=
  World.frozen?_of_block (w := w) (h.block b hb hne)

theorem alloc_frozen_new (w : World) (A : Array Value) (t : TypeId) (j : Nat) : (w.alloc (.cells A t)).frozen? ⟨w.heap.size, j, none⟩ = false := by
  have h : (w.alloc (.cells A t)).heap[w.heap.size]? = some (.cells A t) := heap_alloc_new w _
  unfold World.frozen?
  simp only [h]
  simp
theorem cell_no_map {w : World} {b o M n : Nat} {v : Value} {R : Value → Option (DataW Unit × List MemPlace)} {D : DataW Unit} (hc : w.cell? ⟨b, o, none⟩ = some v) (hM : w.ownsMap Tryz.prog 99 R M n D) : b ≠ M := by
  rintro rfl
  obtain ⟨es, cl, h, _⟩ := hM
  simp [World.cell?, h] at hc
/-- Does one act for another one, as it is told of right chiefs? -/
def mayB (l : List Txt) (acts : List (Txt × Txt)) (a b : Txt) : Bool := has l b && has (forL l acts b) a
/-- All pairs, of the first ones. -/
def ptsTo (l : List Txt) (acts : List (Txt × Txt)) (k : Nat) : List (Txt × Txt) := (l.take k).flatMap fun b => (forL l acts b).map fun a => (a, b)
def ptsIn (l : List Txt) (acts : List (Txt × Txt)) (k : Nat) (b : Txt) (j : Nat) : List (Txt × Txt) := ptsTo l acts k ++ ((forL l acts b).take j).map fun a => (a, b)
def keyL (x : Txt × Txt) : Lit := pk x.1 x.2
def setD (p : List (Txt × Txt)) : DataW Unit := setOf (.agg []) (p.map keyL)
theorem setD_snoc (p : List (Txt × Txt)) (x : Txt × Txt) : setD (p ++ [x]) = (setD p).put (keyL x) (.agg []) := by
  unfold setD; rw [List.map_append]; exact setOf_snoc _ _ _
theorem ptsIn_zero (l : List Txt) (acts : List (Txt × Txt)) (k : Nat) (b : Txt) : ptsIn l acts k b 0 = ptsTo l acts k := by simp [ptsIn]
theorem ptsIn_succ {l : List Txt} {acts : List (Txt × Txt)} {k : Nat} {b : Txt} {j : Nat} (hj : j < (forL l acts b).length) : ptsIn l acts k b (j + 1) = ptsIn l acts k b j ++ [((forL l acts b)[j], b)] := by
  unfold ptsIn; rw [List.take_succ_eq_append_getElem hj]; simp only [List.map_append, List.map_cons, List.map_nil, List.append_assoc]
theorem ptsIn_all {l : List Txt} {acts : List (Txt × Txt)} {k : Nat} (hk : k < l.length) : ptsIn l acts k l[k] (forL l acts l[k]).length = ptsTo l acts (k + 1) := by
  unfold ptsIn ptsTo; rw [List.take_length, List.take_succ_eq_append_getElem hk]; simp only [List.flatMap_append, List.flatMap_cons, List.flatMap_nil, List.append_nil]
theorem forL_le (l : List Txt) (acts : List (Txt × Txt)) (b : Txt) : (forL l acts b).length ≤ l.length := List.length_filter_le _ _
theorem ptsTo_le (l : List Txt) (acts : List (Txt × Txt)) (k : Nat) (hk : k ≤ l.length) : (ptsTo l acts k).length ≤ k * l.length := by
  induction k with
  | zero => simp [ptsTo]
  | succ k ih =>
    have := ih (by omega)
    rw [← ptsIn_all (show k < l.length by omega)]
    have h := forL_le l acts l[k]
    unfold ptsIn
    rw [List.take_length, List.length_append, List.length_map, Nat.add_mul]
    omega
theorem mem_pts {l : List Txt} {acts : List (Txt × Txt)} {a b : Txt} : (a, b) ∈ ptsTo l acts l.length ↔ mayB l acts a b = true := by
  unfold ptsTo mayB
  rw [List.take_length]
  simp only [List.mem_flatMap, List.mem_map, Prod.mk.injEq, Bool.and_eq_true, has_iff]
  constructor
  · rintro ⟨b', hb', a', ha', rfl, rfl⟩; exact ⟨hb', ha'⟩
  · rintro ⟨h1, h2⟩; exact ⟨b, h1, a, h2, rfl, rfl⟩
theorem setD_has {l : List Txt} {acts : List (Txt × Txt)} (hl : ∀ s ∈ l, okTxt s) {a b : Txt} (ha : okTxt a) (hb : okTxt b) : Maps.has (setD (ptsTo l acts l.length)) (pk a b) = mayB l acts a b := by
  unfold setD
  rw [has_setOf _ _ _ (fun x hx => by
    obtain ⟨y, _, rfl⟩ := List.mem_map.1 hx
    trivial)]
  rw [Bool.eq_iff_iff, List.any_eq_true, ← mem_pts]
  constructor
  · rintro ⟨x, hx, he⟩
    obtain ⟨⟨c, d⟩, hy, rfl⟩ := List.mem_map.1 hx
    have hm := mem_pts.1 hy
    unfold mayB at hm
    rw [Bool.and_eq_true, has_iff, has_iff] at hm
    have hc : okTxt c := hl c (List.mem_filter.1 hm.2).1
    have hd : okTxt d := hl d hm.1
    by_cases e : pk c d = pk a b
    · obtain ⟨rfl, rfl⟩ := pk_inj hc hd ha hb e
      exact hy
    · rw [show keyL (c, d) = pk c d from rfl, sameKey_ne e] at he
      cases he
  · intro h
    exact ⟨pk a b, List.mem_map.2 ⟨(a, b), h, rfl⟩, by simp [pk, Lit.sameKey]⟩

set_option maxHeartbeats 1000000 in
set_option maxRecDepth 100000 in
theorem among_calls (l : List Txt) (acts : List (Txt × Txt)) (v u : Value) (w : World) (hv : Strs w l v) (hu : Prs w acts u) (hc : checkC l acts = 0) (hl : ∀ s ∈ l, okTxt s) :
    Calls Tryz.prog 30 #[v, u] w fun e w' => ∃ r, e = .returned (.agg #[v, .map (some r)]) ∧ PairsAt w' r (mayB l acts) ∧ Below w.heap.size w w' := by
  have hv0 := hv
  have hu0 := hu
  obtain ⟨b0, o0, c0, p0, rfl, hlc, hcm, hp0, hcells0⟩ := hv.cells
  obtain ⟨b1, o1, c1, p1, rfl, hlc1, hcm1, _⟩ := hu.cells
  clear hv hu
  obtain ⟨z1, _, _, _⟩ := checkC_zero hc
  have HC := Lib.hid hc
  have HL := Lib.hid hl
  have hmm := @run_makeMap Tryz.prog
  clear hc hl
  go_enter Tryz.func30, Tryz.ntmps30
  go_wp2
  obtain ⟨W0, eW⟩ : ∃ W0, ((w.alloc (.cells #[.slice none 0 0, .map none] 62)).alloc (.map #[] 0)).alloc (.cells #[.slice p0 l.length c0, .map (some (w.heap.size + 1))] 62) = W0 := ⟨_, rfl⟩
  have hW : Below w.heap.size w W0 := by rw [← eW]; exact (((Below.refl _ _).alloc (Nat.le_refl _) _).alloc (by simp) _).alloc (by simp; omega) _
  have hz : W0.heap.size = w.heap.size + 3 := by rw [← eW]; simp
  have hM : W0.ownsMap Tryz.prog 99 (unitElem (H := Unit)) (w.heap.size + 1) 0 (setD (ptsTo l acts 0)) := by
    rw [← eW]
    have h := World.ownsMap_made (H := Unit) (w.alloc (.cells #[.slice none 0 0, .map none] 62)) Tryz.prog 99 unitElem
    have e : (w.alloc (.cells #[.slice none 0 0, .map none] 62)).heap.size = w.heap.size + 1 := by simp
    rw [e] at h
    exact h.alloc _
  have hA0 : W0.cell? ⟨w.heap.size, 0, none⟩ = some (.slice none 0 0) := by
    rw [← eW, alloc_cell_old _ _ _ _ (by simp; omega), alloc_cell_old _ _ _ _ (by simp), alloc_cell_new _ _ _ _ _ rfl]; rfl
  have hA1 : W0.cell? ⟨w.heap.size, 1, none⟩ = some (.map none) := by
    rw [← eW, alloc_cell_old _ _ _ _ (by simp; omega), alloc_cell_old _ _ _ _ (by simp), alloc_cell_new _ _ _ _ _ rfl]; rfl
  have hB0 : W0.cell? ⟨w.heap.size + 1 + 1, 0, none⟩ = some (.slice p0 l.length c0) := by
    rw [← eW, alloc_cell_new _ _ _ _ _ (by simp)]; rfl
  have hB1 : W0.cell? ⟨w.heap.size + 1 + 1, 1, none⟩ = some (.map (some (w.heap.size + 1))) := by
    rw [← eW, alloc_cell_new _ _ _ _ _ (by simp)]; rfl
  have hfr : ∀ j, W0.frozen? ⟨w.heap.size, j, none⟩ = false := fun j => by
    rw [← eW, World.frozen?_alloc_old _ _ _ (by simp; omega), World.frozen?_alloc_old _ _ _ (by simp)]
    exact alloc_frozen_new _ _ _ _
  rw [eW]
  have HW := Lib.hid hW
  have HZ := Lib.hid hz
  have HA0 := Lib.hid hA0
  have HA1 := Lib.hid hA1
  have HB0 := Lib.hid hB0
  have HB1 := Lib.hid hB1
  have HFR := Lib.hid hfr
  clear eW hW hz hA0 hA1 hB0 hB1 hfr
  go_loopw [17] (fun i wr => ∃ k : Nat, k ≤ l.length ∧ i = .int .i64 k ∧ W0.grownBy wr (some (w.heap.size + 1)) ∧ wr.ownsMap Tryz.prog 99 (unitElem (H := Unit)) (w.heap.size + 1) (ptsTo l acts k).length (setD (ptsTo l acts k))) (fun i _ => l.length - (intOf i).toNat)
  case atStart => exact ⟨0, Nat.zero_le _, rfl, World.grownBy.refl _ _, hM⟩
  case round =>
    clear hM
    obtain ⟨k, hk, rfl, hg, hM⟩ := hrel
    have hbw : Below w.heap.size w wr := HW.out.grown hg HW.out.size (fun q hq => by cases hq; omega)
    by_cases hlt : k < l.length
    · have hcell0 := hcells0 k hlt
      have hcell : wr.cell? ⟨b0, o0 + k, none⟩ = some (.string l[k]) := (hbw.cell (cell_lt hcell0)).trans hcell0
      obtain rfl := hp0 (by omega)
      have HG := Lib.hid hg
      have HM := Lib.hid hM
      have HBW := Lib.hid hbw
      clear hp0 hcells0 hcell0 hg hM hbw
      go_wp2_with (fail)
      refine (for_calls l acts l[k] _ _ _ (hv0.stays (keeps_of_below HBW.out)) (hu0.stays (keeps_of_below HBW.out))).mono ?_
      rintro e w1 ⟨x1, rfl, hx1, hb1⟩
      have hhas : has l l[k] = true := has_iff.2 (List.getElem_mem hlt)
      have e1 : forE l acts l[k] = 0 := by unfold forE; rw [if_neg (by have := HC.out; omega), hhas]; rfl
      have e2 : forR l acts l[k] = forL l acts l[k] := by unfold forR; rw [if_pos e1]
      rw [e2] at hx1
      rw [e1]
      have hlen := forL_le l acts l[k]
      have hokf : ∀ s ∈ forL l acts l[k], okTxt s := fun s hs => HL.out s (List.mem_filter.1 hs).1
      have hokk : okTxt l[k] := HL.out _ (List.getElem_mem hlt)
      have hpl := ptsTo_le l acts k (by omega)
      have hp36 : (ptsTo l acts k).length ≤ 36 := Nat.le_trans hpl (Nat.mul_le_mul (show k ≤ 6 by omega) z1)
      have HALL : Hid (ptsIn l acts k l[k] (forL l acts l[k]).length = ptsTo l acts (k + 1)) := ptsIn_all hlt
      have HSUCC : Hid (∀ j, (hj : j < (forL l acts l[k]).length) → ptsIn l acts k l[k] (j + 1) = ptsIn l acts k l[k] j ++ [((forL l acts l[k])[j], l[k])]) := fun j hj => ptsIn_succ hj
      have HLEN : Hid (∀ j, (ptsIn l acts k l[k] j).length ≤ (ptsTo l acts k).length + j) := fun j => by unfold ptsIn; simp; omega
      have hg1 : W0.grownBy w1 (some (w.heap.size + 1)) := grown_below HG.out hb1
      have hM1 : w1.ownsMap Tryz.prog 99 (unitElem (H := Unit)) (w.heap.size + 1) (ptsIn l acts k l[k] 0).length (setD (ptsIn l acts k l[k] 0)) := by
        rw [ptsIn_zero]
        exact HM.out.kept (row := none) ⟨hb1.os, hb1.tape, hb1.output, hb1.size, fun q hq _ => hb1.block q hq⟩ (by simp)
      clear e1 e2 hhas hpl hcell
      generalize forL l acts l[k] = fl at *
      generalize l[k] = lk at *
      obtain ⟨b3, o3, c3, p3, rfl, hl3, hc3, hp3, hcells3⟩ := hx1.cells
      have HNE : Hid (∀ i (hi : i < fl.length), some b3 ≠ some (w.heap.size + 1)) := fun i hi e => cell_no_map (hcells3 i hi) hM1 (by simpa using e)
      go_wp2
      go_loopw [30] (fun i wr => ∃ j : Nat, j ≤ fl.length ∧ i = .int .i64 j ∧ W0.grownBy wr (some (w.heap.size + 1)) ∧ w1.grownBy wr (some (w.heap.size + 1)) ∧ wr.ownsMap Tryz.prog 99 (unitElem (H := Unit)) (w.heap.size + 1) (ptsIn l acts k lk j).length (setD (ptsIn l acts k lk j))) (fun i _ => fl.length - (intOf i).toNat)
      case atStart => exact ⟨0, Nat.zero_le _, rfl, hg1, World.grownBy.refl _ _, hM1⟩
      case round =>
        clear hg1 hM1
        obtain ⟨j, hj, rfl, hg, hg2, hM⟩ := hrel
        by_cases hltj : j < fl.length
        · have hcj := hcells3 j hltj
          have hcell : wr.cell? ⟨b3, o3 + j, none⟩ = some (.string fl[j]) := grown_cell hg2 hcj (HNE.out j hltj)
          obtain rfl := hp3 (by omega)
          have hcB : wr.cell? ⟨w.heap.size + 1 + 1, 1, none⟩ = some (.map (some (w.heap.size + 1))) := grown_cell hg HB1.out (by simp)
          have hok := hokf fl[j] (List.getElem_mem hltj)
          have HG := Lib.hid hg
          have HG2 := Lib.hid hg2
          have hle := HLEN.out j
          have HSJ := Lib.hid (HSUCC.out j hltj)
          clear hp3 hcells3 hcj hg hg2
          go_wp2_with (at_mapUpdate; refine wpList_mapUpdate_own _ rfl _ _ _ 60 rfl 99 98 law_pair Tryz.underlying60 _ (w.heap.size + 1) _ _ rfl hM ?c1 _ _ _ rfl rfl (pk_key hok hokk) (.agg []) [] unitElem_mk ?_)
          case c1 => unfold maxLen; omega
          · intro w2 hM2 hgr
            go_wp2
            go_roundw
            case rel =>
              refine ⟨j + 1, by omega, by go_num, grown_grown HG.out hgr, grown_grown HG2.out hgr, ?_⟩
              rw [HSJ.out, setD_snoc, List.length_append]
              exact hM2
            case measure => simp [intOf]; omega
        · obtain rfl : j = fl.length := by omega
          rw [HALL.out] at hM
          clear hp3 hcells3
          go_wp2
          go_roundw
          case rel => exact ⟨k + 1, by omega, by go_num, hg, hM⟩
          case measure => simp [intOf]; omega
    · obtain rfl : k = l.length := by omega
      have hp36 : (ptsTo l acts l.length).length ≤ 36 := Nat.le_trans (ptsTo_le l acts _ (Nat.le_refl _)) (Nat.mul_le_mul z1 z1)
      have hB0 : wr.cell? ⟨w.heap.size + 1 + 1, 0, none⟩ = some (.slice p0 l.length c0) := grown_cell hg HB0.out (by simp)
      have hB1 : wr.cell? ⟨w.heap.size + 1 + 1, 1, none⟩ = some (.map (some (w.heap.size + 1))) := grown_cell hg HB1.out (by simp)
      have hA0 : wr.cell? ⟨w.heap.size, 0, none⟩ = some (.slice none 0 0) := grown_cell hg HA0.out (by simp)
      have hA1 : wr.cell? ⟨w.heap.size, 1, none⟩ = some (.map none) := grown_cell hg HA1.out (by simp)
      have hf0 : wr.frozen? ⟨w.heap.size, 0, none⟩ = false := (grown_frozen hg (by have := HZ.out; omega) (by simp)).trans (HFR.out 0)
      have hf1 : wr.frozen? ⟨w.heap.size, 1, none⟩ = false := (grown_frozen hg (by have := HZ.out; omega) (by simp)).trans (HFR.out 1)
      have HP : Hid (PairsAt wr (w.heap.size + 1) (mayB l acts)) := ⟨_, _, hM, by omega, fun a b ha hb => setD_has HL.out ha hb⟩
      have HBW := Lib.hid hbw
      clear hp0 hcells0 hM hg hbw
      go_wp2
      refine bodyPost_ret (v := .agg #[.slice p0 l.length c0, .map (some (w.heap.size + 1))]) ?_ rfl ⟨w.heap.size + 1, rfl, ?_, ?_⟩
      · have q0 : (wr.setCell ⟨w.heap.size, 0, none⟩ (.slice p0 l.length c0)).cell? ⟨w.heap.size, 0, none⟩ = some (.slice p0 l.length c0) := World.cell?_setCell_same _ _ _ hA0
        have q1 : ((wr.setCell ⟨w.heap.size, 0, none⟩ (.slice p0 l.length c0)).setCell ⟨w.heap.size, 1, none⟩ (.map (some (w.heap.size + 1)))).cell? ⟨w.heap.size, 1, none⟩ = some (.map (some (w.heap.size + 1))) :=
          World.cell?_setCell_same _ _ _ ((World.cell?_setCell_other _ _ _ _ (by simp)).trans hA1)
        simp [results, Tryz.results30, go_sem, q0, q1]
      · exact (HP.out.setCell (by simp) _).setCell (by simp) _
      · exact (HBW.out.setCell (Nat.le_refl _) _).setCell (Nat.le_refl _) _
end Go.Proofs.YtcgihpfanfbonaaGreatDoor
namespace Go.Proofs.YtcgihpfanfbonaaGreatDoor
open Go.RowKit Go.Maps
set_option linter.unusedVariables false
set_option linter.unusedSimpArgs false

def flowsE (l : List Txt) (acts : List (Txt × Txt)) (a b : Lab) : Int := if labE l acts a ≠ 0 then labE l acts a else labE l acts b
def flowsR (l : List Txt) (acts : List (Txt × Txt)) (a b : Lab) : Bool := flowsE l acts a b == 0 && flowsB (mayB l acts) a b

theorem labE_check {l : List Txt} {acts : List (Txt × Txt)} {x : Lab} (h : labE l acts x = 0) : checkC l acts = 0 ∧ labErr l x = 0 := by
  unfold labE at h
  split at h
  · omega
  · exact ⟨by omega, h⟩

set_option maxHeartbeats 1000000 in
set_option maxRecDepth 100000 in
theorem flows_calls (l : List Txt) (acts : List (Txt × Txt)) (a b : Lab) (v u va vb : Value) (w : World) (hv : Strs w l v) (hu : Prs w acts u) (ha : Lbl w a va) (hb : Lbl w b vb) (hl : okList okTxt l) (hao : okLab a) (hbo : okLab b) :
    Calls Tryz.prog 40 #[v, u, va, vb] w fun e w' => e = .returned (.tuple #[.bool (flowsR l acts a b), .int .i64 (flowsE l acts a b)]) ∧ Below w.heap.size w w' := by
  obtain ⟨b0, o0, c0, p0, rfl, _⟩ := hv.cells
  obtain ⟨b1, o1, c1, p1, rfl, _⟩ := hu.cells
  obtain ⟨b2, o2, c2, p2, rfl, _⟩ := ha.cells
  obtain ⟨b3, o3, c3, p3, rfl, _⟩ := hb.cells
  have i0 : ∀ x y (w : World), (Instr.index 65 (.agg #[x, y]) (.int .i64 0)).run Tryz.prog w = .ok x w := fun _ _ _ => by kernel_rfl
  have i1 : ∀ x y (w : World), (Instr.index 65 (.agg #[x, y]) (.int .i64 1)).run Tryz.prog w = .ok y w := fun _ _ _ => by kernel_rfl
  go_enter Tryz.func40, Tryz.ntmps40
  go_wp2
  go_loopw [11, 12, 16] (fun _ _ i wr => ∃ k : Nat, k ≤ 2 ∧ i = .int .i64 k ∧ Below w.heap.size w wr ∧ Hid ((0 < k → labE l acts a = 0) ∧ (1 < k → labE l acts b = 0))) (fun _ _ i _ => 2 - (intOf i).toNat)
  case atStart => exact ⟨0, by omega, rfl, Below.refl _ _, fun h => absurd h (by omega), fun h => absurd h (by omega)⟩
  case round =>
    obtain ⟨k, hk, rfl, hbr, HK⟩ := hrel
    match k, hk, HK with
    | 0, _, HK =>
      by_cases he : labE l acts a = 0
      · have HE := Lib.hid he
        go_wp2_with (fail)
        refine (labCheck_calls l acts a _ _ _ _ (hv.stays (keeps_of_below hbr)) (hu.stays (keeps_of_below hbr)) (ha.stays (keeps_of_below hbr))).mono ?_
        rintro e w1 ⟨rfl, hb1⟩
        rw [he]
        clear he
        go_wp2
        go_roundw
        case rel => exact ⟨1, by omega, by go_num, hbr.trans (hb1.mono hbr.size), fun _ => HE.out, fun h => absurd h (by omega)⟩
        case measure => simp [intOf]
      · have HE : Hid (flowsE l acts a b = labE l acts a ∧ flowsR l acts a b = false) := by
          have e : flowsE l acts a b = labE l acts a := by unfold flowsE; rw [if_pos he]
          exact ⟨e, by unfold flowsR; rw [e]; simp [he]⟩
        have hq : (labE l acts a != 0) = true := by simpa using he
        have hq2 : (labE l acts a == 0) = false := by simpa using he
        clear he
        go_wp2_with (fail)
        refine (labCheck_calls l acts a _ _ _ _ (hv.stays (keeps_of_below hbr)) (hu.stays (keeps_of_below hbr)) (ha.stays (keeps_of_below hbr))).mono ?_
        rintro e w1 ⟨rfl, hb1⟩
        go_wp2
        go_ret2
        exact ⟨by rw [HE.out.1, HE.out.2]; rfl, hbr.trans (hb1.mono hbr.size)⟩
    | 1, _, HK =>
      have he0 : labE l acts a = 0 := HK.out.1 (by omega)
      have HE0 := Lib.hid he0
      clear he0
      by_cases he : labE l acts b = 0
      · have HE := Lib.hid he
        go_wp2_with (fail)
        refine (labCheck_calls l acts b _ _ _ _ (hv.stays (keeps_of_below hbr)) (hu.stays (keeps_of_below hbr)) (hb.stays (keeps_of_below hbr))).mono ?_
        rintro e w1 ⟨rfl, hb1⟩
        rw [he]
        clear he
        go_wp2
        go_roundw
        case rel => exact ⟨2, by omega, by go_num, hbr.trans (hb1.mono hbr.size), fun _ => HE0.out, fun _ => HE.out⟩
        case measure => simp [intOf]
      · have HE : Hid (flowsE l acts a b = labE l acts b ∧ flowsR l acts a b = false) := by
          have e : flowsE l acts a b = labE l acts b := by unfold flowsE; rw [if_neg (by rw [HE0.out]; simp)]
          exact ⟨e, by unfold flowsR; rw [e]; simp [he]⟩
        have hq : (labE l acts b != 0) = true := by simpa using he
        have hq2 : (labE l acts b == 0) = false := by simpa using he
        clear he
        go_wp2_with (fail)
        refine (labCheck_calls l acts b _ _ _ _ (hv.stays (keeps_of_below hbr)) (hu.stays (keeps_of_below hbr)) (hb.stays (keeps_of_below hbr))).mono ?_
        rintro e w1 ⟨rfl, hb1⟩
        go_wp2
        go_ret2
        exact ⟨by rw [HE.out.1, HE.out.2]; rfl, hbr.trans (hb1.mono hbr.size)⟩
    | 2, _, HK =>
      have he0 : labE l acts a = 0 := HK.out.1 (by omega)
      have he1 : labE l acts b = 0 := HK.out.2 (by omega)
      have hc := (labE_check he0).1
      have HC := Lib.hid hc
      have HE : Hid (flowsE l acts a b = 0 ∧ flowsR l acts a b = flowsB (mayB l acts) a b) := by
        have e : flowsE l acts a b = 0 := by unfold flowsE; rw [if_neg (by rw [he0]; simp), he1]
        exact ⟨e, by unfold flowsR; rw [e]; rfl⟩
      clear he0 he1 hc i0 i1
      go_wp2_with (fail)
      refine (among_calls l acts _ _ _ (hv.stays (keeps_of_below hbr)) (hu.stays (keeps_of_below hbr)) HC.out hl).mono ?_
      rintro e w1 ⟨r, rfl, hp1, hb1⟩
      have hbw : Below w.heap.size w w1 := hbr.trans (hb1.mono hbr.size)
      go_wp2_with (fail)
      refine (wflows_calls (mayB l acts) _ r a b _ _ _ hp1 hao hbo (ha.stays (keeps_of_below hbw)) (hb.stays (keeps_of_below hbw))).mono ?_
      rintro e w2 ⟨rfl, hb2⟩
      go_wp2
      go_ret2
      exact ⟨by rw [HE.out.1, HE.out.2]; rfl, hbw.trans (hb2.mono hbw.size)⟩

/-- Those whom a label lets read, of the first ones. -/
def readsTo (q : Txt → Txt → Bool) (l : List Txt) (x : Lab) (k : Nat) : List Txt := (l.take k).filter fun s => !anyBy x fun p => !letsB q p s
theorem readsTo_hit {q : Txt → Txt → Bool} {l : List Txt} {x : Lab} {k : Nat} (hk : k < l.length) (h : (anyBy x fun p => !letsB q p l[k]) = false) : readsTo q l x (k + 1) = readsTo q l x k ++ [l[k]] := by
  unfold readsTo; rw [List.take_succ_eq_append_getElem hk, List.filter_append]; simp [h]
theorem readsTo_miss {q : Txt → Txt → Bool} {l : List Txt} {x : Lab} {k : Nat} (hk : k < l.length) (h : (anyBy x fun p => !letsB q p l[k]) = true) : readsTo q l x (k + 1) = readsTo q l x k := by
  unfold readsTo; rw [List.take_succ_eq_append_getElem hk, List.filter_append]; simp [h]
theorem readsTo_le (q : Txt → Txt → Bool) (l : List Txt) (x : Lab) (k : Nat) : (readsTo q l x k).length ≤ k := by
  unfold readsTo; exact Nat.le_trans (List.length_filter_le _ _) (List.length_take_le _ _)
def readsL (q : Txt → Txt → Bool) (l : List Txt) (x : Lab) : List Txt := l.filter fun s => !anyBy x fun p => !letsB q p s
def readsR (l : List Txt) (acts : List (Txt × Txt)) (x : Lab) : List Txt := if labE l acts x = 0 then readsL (mayB l acts) l x else []

section
variable (q : Txt → Txt → Bool) (vc : Value) (r : Nat)
theorem readsF_calls (p : Pol) (s : Txt) (vp : Value) (g1 g2 : Nat) (w : World) (hp : PairsAt w r q) (hpo : okPol p) (hs : okTxt s) (hr : Strs w p.2 vp)
    (h1 : w.cell? ⟨g1, 0, none⟩ = some vc) (h2 : w.cell? ⟨g1, 1, none⟩ = some (.map (some r))) (h3 : w.cell? ⟨g2, 0, none⟩ = some (.string s)) :
    Calls Tryz.prog 70 #[.agg #[.string p.1, vp], .pointer (some ⟨g1, 0, none⟩), .pointer (some ⟨g2, 0, none⟩)] w fun e w' => e = .returned (.bool (!letsB q p s)) ∧ Below w.heap.size w w' := by
  obtain ⟨o, rs⟩ := p
  have l1 := cell_lt h1
  have l3 := cell_lt h3
  obtain ⟨W1, eW⟩ : ∃ W1, w.alloc (.cells #[.string o, vp] 37) = W1 := ⟨_, rfl⟩
  obtain ⟨z1, hW, m1⟩ := boxes1 eW
  have HW := Lib.hid hW
  have HP := Lib.hid hp
  have hc1 := m1 0
  have hc2 := m1 1
  simp only [List.getElem?_toArray, List.getElem?_cons_zero, List.getElem?_cons_succ] at hc1 hc2
  have k1 : W1.cell? ⟨g1, 0, none⟩ = some vc := (hW.cell l1).trans h1
  have k2 : W1.cell? ⟨g1, 1, none⟩ = some (.map (some r)) := (hW.cell (p := ⟨g1, 1, none⟩) l1).trans h2
  have k3 : W1.cell? ⟨g2, 0, none⟩ = some (.string s) := (hW.cell l3).trans h3
  clear m1 hW z1 hp h1 h2 h3
  go_enter Tryz.func70, Tryz.ntmps70
  go_wp2_with (fail)
  refine (lets_calls q vc r (o, rs) s vp _ (HP.out.below HW.out) hpo hs (hr.stays (keeps_of_below HW.out))).mono ?_
  rintro e w1 ⟨rfl, hb⟩
  go_wp2
  go_ret
  exact ⟨rfl, HW.out.trans (hb.mono HW.out.size)⟩
end

set_option maxHeartbeats 1000000 in
set_option maxRecDepth 100000 in
theorem reads_calls (l : List Txt) (acts : List (Txt × Txt)) (x : Lab) (v u t : Value) (w : World) (hv : Strs w l v) (hu : Prs w acts u) (ht : Lbl w x t) (hl : okList okTxt l) (hxo : okLab x) :
    Calls Tryz.prog 38 #[v, u, t] w fun e w' => ∃ y, e = .returned (.tuple #[y, .int .i64 (labE l acts x)]) ∧ Strs w' (readsR l acts x) y ∧ Below w.heap.size w w' := by
  have hv0 := hv
  obtain ⟨b0, o0, c0, p0, rfl, hlc, hcm, hp0, hcells0⟩ := hv.cells
  obtain ⟨b1, o1, c1, p1, rfl, _⟩ := hu.cells
  obtain ⟨b2, o2, c2, p2, rfl, _⟩ := ht.cells
  by_cases he : labE l acts x = 0
  · obtain ⟨hc, _⟩ := labE_check he
    obtain ⟨z1, _, _, _⟩ := checkC_zero hc
    have HC := Lib.hid hc
    have hR : readsR l acts x = readsTo (mayB l acts) l x l.length := by unfold readsR readsTo readsL; rw [if_pos he, List.take_length]
    have HR := Lib.hid hR
    have HE := Lib.hid he
    obtain ⟨t0, hi, hz0, hz1, hz2⟩ := info_parts Tryz.info_stringL
    have eg : ∀ args w, (callFunc 70 args).run Tryz.prog w = .ok (.enter 70 args) w := enters_at Tryz.func70 (by kernel_rfl) rfl
    have HEG := Lib.hid eg
    have HL := Lib.hid hl
    clear hc eg hv hl hR
    go_enter Tryz.func38, Tryz.ntmps38
    go_wp2_with (fail)
    refine (labCheck_calls l acts x _ _ _ _ hv0 hu ht).mono ?_
    rintro e w1 ⟨rfl, hb1⟩
    rw [he]
    clear he
    go_wp2_with (fail)
    refine (among_calls l acts _ _ _ (hv0.stays (keeps_of_below hb1)) (hu.stays (keeps_of_below hb1)) HC.out HL.out).mono ?_
    rintro e w2 ⟨r, rfl, hp2, hb2⟩
    generalize mayB l acts = q at *
    obtain ⟨W3, eW⟩ : ∃ W3, w2.alloc (.cells #[.slice p0 l.length c0, .map (some r)] 62) = W3 := ⟨_, rfl⟩
    obtain ⟨z3, hW, m1⟩ := boxes1 eW
    have hm0 := m1 0
    have hm1 := m1 1
    simp only [List.getElem?_toArray, List.getElem?_cons_zero, List.getElem?_cons_succ] at hm0 hm1
    have hbw2 : Below w.heap.size w w2 := hb1.trans (hb2.mono hb1.size)
    have hbw3 : Below w.heap.size w W3 := hbw2.trans (hW.mono hbw2.size)
    have hp3 := hp2.below hW
    have HB3 := Lib.hid hbw3
    have HP3 := Lib.hid hp3
    have HZ3 := Lib.hid z3
    have HM0 := Lib.hid hm0
    have HM1 := Lib.hid hm1
    clear m1 hW z3 hp2 hb1 hb2 hbw2 hbw3 hp3 hm0 hm1
    go_wp2
    go_loopw [10, 12, 25] (fun y _ i wr => ∃ k : Nat, k ≤ l.length ∧ i = .int .i64 k ∧ Below W3.heap.size W3 wr ∧ wr.ownsRow W3.heap.size 9 1 y (readsTo q l x k).length ((readsTo q l x k).map Value.string)) (fun _ _ i _ => l.length - (intOf i).toNat)
    case atStart => exact ⟨0, Nat.zero_le _, rfl, Below.refl _ _, World.ownsRow_nil _ _ _ _⟩
    case round =>
      obtain ⟨k, hk, rfl, hbr, hown⟩ := hrel
      have hbw : Below w.heap.size w wr := HB3.out.trans (hbr.mono HB3.out.size)
      by_cases hlt : k < l.length
      · have hcell0 := hcells0 k hlt
        have hcell : wr.cell? ⟨b0, o0 + k, none⟩ = some (.string l[k]) := (hbw.cell (cell_lt hcell0)).trans hcell0
        obtain rfl := hp0 (by omega)
        have hok := HL.out l[k] (List.getElem_mem hlt)
        have hle := readsTo_le q l x k
        have HBR := Lib.hid hbr
        have HOWN := Lib.hid hown
        have HBW := Lib.hid hbw
        clear hp0 hcells0 hcell0 hbr hown hbw
        obtain ⟨W4, eW4⟩ : ∃ W4, wr.alloc (.cells #[.string l[k]] 9) = W4 := ⟨_, rfl⟩
        obtain ⟨z4, hW4, m4⟩ := boxes1 eW4
        have hm4 := m4 0
        simp only [List.getElem?_toArray, List.getElem?_cons_zero, List.getElem?_cons_succ] at hm4
        have HW4 := Lib.hid hW4
        have HZ4 := Lib.hid z4
        have HM4 := Lib.hid hm4
        have hl2 : w2.heap.size < wr.heap.size := Nat.lt_of_lt_of_le (by have := HZ3.out; omega) HBR.out.size
        have hxs : wr.heap.size < W4.heap.size := by omega
        clear m4 hW4 z4
        cases hx : anyBy x (fun p => !letsB q p l[k]) with
        | true =>
          have HX : Hid (readsTo q l x (k + 1) = readsTo q l x k) := readsTo_miss hlt hx
          go_wp2_with (fail)
          refine (containsPol_calls x _ 70 #[.pointer (some ⟨w2.heap.size, 0, none⟩), .pointer (some ⟨wr.heap.size, 0, none⟩)] (fun p => !letsB q p l[k]) _ (ht.stays (keeps_of_below (HBW.out.trans (HW4.out.mono HBW.out.size)))) HEG.out ?_).mono ?_
          · intro p hp vp w5 hb5 hr5
            have hb45 : Below wr.heap.size wr w5 := HW4.out.trans (hb5.mono HW4.out.size)
            have hb35 : Below W3.heap.size W3 w5 := HBR.out.trans (hb45.mono HBR.out.size)
            exact readsF_calls q _ r p l[k] vp w2.heap.size wr.heap.size w5 (HP3.out.below hb35) (hxo p hp) hok hr5
              ((hb35.cell (p := ⟨w2.heap.size, 0, none⟩) (by have := HZ3.out; simp only; omega)).trans HM0.out) ((hb35.cell (p := ⟨w2.heap.size, 1, none⟩) (by have := HZ3.out; simp only; omega)).trans HM1.out)
              ((hb5.cell (p := ⟨wr.heap.size, 0, none⟩) hxs).trans HM4.out)
          · rintro e w5 ⟨rfl, hb5⟩
            rw [hx]
            clear hx
            have hb45 : Below wr.heap.size wr w5 := HW4.out.trans (hb5.mono HW4.out.size)
            have HB45 := Lib.hid hb45
            go_wp2
            go_roundw
            case rel =>
              refine ⟨k + 1, by omega, by go_num, HBR.out.trans (HB45.out.mono HBR.out.size), ?_⟩
              rw [HX.out]
              exact own_below HOWN.out HB45.out
            case measure => simp [intOf]; omega
        | false =>
          have HX : Hid (readsTo q l x (k + 1) = readsTo q l x k ++ [l[k]]) := readsTo_hit hlt hx
          go_wp2_with (fail)
          refine (containsPol_calls x _ 70 #[.pointer (some ⟨w2.heap.size, 0, none⟩), .pointer (some ⟨wr.heap.size, 0, none⟩)] (fun p => !letsB q p l[k]) _ (ht.stays (keeps_of_below (HBW.out.trans (HW4.out.mono HBW.out.size)))) HEG.out ?_).mono ?_
          · intro p hp vp w5 hb5 hr5
            have hb45 : Below wr.heap.size wr w5 := HW4.out.trans (hb5.mono HW4.out.size)
            have hb35 : Below W3.heap.size W3 w5 := HBR.out.trans (hb45.mono HBR.out.size)
            exact readsF_calls q _ r p l[k] vp w2.heap.size wr.heap.size w5 (HP3.out.below hb35) (hxo p hp) hok hr5
              ((hb35.cell (p := ⟨w2.heap.size, 0, none⟩) (by have := HZ3.out; simp only; omega)).trans HM0.out) ((hb35.cell (p := ⟨w2.heap.size, 1, none⟩) (by have := HZ3.out; simp only; omega)).trans HM1.out)
              ((hb5.cell (p := ⟨wr.heap.size, 0, none⟩) hxs).trans HM4.out)
          · rintro e w5 ⟨rfl, hb5⟩
            rw [hx]
            clear hx
            have hb45 : Below wr.heap.size wr w5 := HW4.out.trans (hb5.mono HW4.out.size)
            have hs5 : w5.cell? ⟨wr.heap.size, 0, none⟩ = some (.string l[k]) := (hb5.cell (p := ⟨wr.heap.size, 0, none⟩) hxs).trans HM4.out
            have hown5 := own_below HOWN.out hb45
            have hb35 : Below W3.heap.size W3 w5 := HBR.out.trans (hb45.mono HBR.out.size)
            have HB35 := Lib.hid hb35
            have hsz35 := hb35.size
            clear hb45 hb5 hb35 hcell
            go_wp2_with (at_builtin; refine wpList_append_own _ rfl _ _ 22 rfl W3.heap.size 9 t0 (.string ByteArray.empty) 1 16 Tryz.underlying22 hi hz0 hz1 hz2 rfl (by decide) _ _ _ rfl (hown5.alloc _) ⟨w5.heap.size, 0, none⟩ 1 1 [.string l[k]] rfl rfl ?c1 ?c2 ?c3 ?c4 ?c5 ?_)
            case c1 =>
              intro j u hj
              match j, hj with
              | 0, hj => simp at hj; subst hj; simp [Addr.add]
            case c2 => intro u hu; simp at hu; subst hu; rfl
            case c3 => unfold maxLen; omega
            case c4 => omega
            case c5 => simp; omega
            · intro v' w6 hown' hgrow _
              go_wp2
              go_roundw
              case rel =>
                refine ⟨k + 1, by omega, by go_num, (HB35.out.alloc HB35.out.size _).grown hgrow (by have := HB35.out.size; simp; omega) (fun q hq => (hown5.lt q hq).1), ?_⟩
                rw [HX.out]
                simpa using hown'
              case measure => simp [intOf]; omega
      · obtain rfl : k = l.length := by omega
        have HO := Lib.hid hown
        have HBW := Lib.hid hbw
        clear hp0 hcells0 hown hbw hbr
        go_wp2
        go_ret2
        refine ⟨_, by rw [HE.out]; rfl, ?_, HBW.out⟩
        rw [HR.out]
        exact Strs.of_owns HO.out
  · have hR : readsR l acts x = [] := by unfold readsR; rw [if_neg he]
    rw [hR]
    have hq : (labE l acts x != 0) = true := by simpa using he
    have hq2 : (labE l acts x == 0) = false := by simpa using he
    clear he hR
    go_enter Tryz.func38, Tryz.ntmps38
    go_wp2_with (fail)
    refine (labCheck_calls l acts x _ _ _ _ hv0 hu ht).mono ?_
    rintro e w1 ⟨rfl, hb1⟩
    go_wp2
    go_ret2
    exact ⟨_, rfl, ⟨none, 0, rfl, by simp, by unfold maxLen; omega, Or.inl rfl⟩, hb1⟩
end Go.Proofs.YtcgihpfanfbonaaGreatDoor
namespace Go.Proofs.YtcgihpfanfbonaaGreatDoor
set_option linter.unusedVariables false
set_option linter.unusedSimpArgs false

theorem may_iff {l : List Txt} {acts : List (Txt × Txt)} {a b : Txt} : mayB l acts a b = true ↔ has l b = true ∧ has l a = true ∧ actM l acts a b = true := by
  unfold mayB forL
  rw [Bool.and_eq_true, has_iff, has_iff, List.mem_filter, has_iff]
theorem may_refl {l : List Txt} {acts : List (Txt × Txt)} {a : Txt} (h : has l a = true) : mayB l acts a a = true :=
  may_iff.2 ⟨h, h, clos_reach.2 (.refl _)⟩
theorem may_trans {l : List Txt} {acts : List (Txt × Txt)} {a b c : Txt} (h1 : mayB l acts a b = true) (h2 : mayB l acts b c = true) : mayB l acts a c = true := by
  obtain ⟨_, ha, r1⟩ := may_iff.1 h1
  obtain ⟨hc, _, r2⟩ := may_iff.1 h2
  exact may_iff.2 ⟨hc, ha, clos_reach.2 ((clos_reach.1 r1).trans (clos_reach.1 r2))⟩
theorem may_more {l : List Txt} {acts more : List (Txt × Txt)} {a b : Txt} (h : mayB l acts a b = true) : mayB l (acts ++ more) a b = true := by
  obtain ⟨h1, h2, h3⟩ := may_iff.1 h
  exact may_iff.2 ⟨h1, h2, act_more h3⟩

theorem any_iff {α : Type} {l : List α} {q : α → Bool} : anyBy l q = true ↔ ∃ x ∈ l, q x = true := by
  unfold anyBy; rw [List.any_eq_true]
theorem lets_iff {q : Txt → Txt → Bool} {p : Pol} {s : Txt} : letsB q p s = true ↔ q s p.1 = true ∨ ∃ r ∈ p.2, q s r = true := by
  unfold letsB; rw [Bool.or_eq_true, any_iff]
theorem notAny_iff {α : Type} {l : List α} {f : α → Bool} : (!anyBy l fun x => !f x) = true ↔ ∀ x ∈ l, f x = true := by
  rw [Bool.not_eq_true', ← Bool.not_eq_true, any_iff]
  constructor
  · intro h x hx
    cases e : f x with
    | true => rfl
    | false => exact absurd ⟨x, hx, by rw [e]; rfl⟩ h
  · rintro h ⟨x, hx, e⟩
    rw [h x hx] at e
    cases e
theorem covers_iff {q : Txt → Txt → Bool} {p x : Pol} : coversB q p x = true ↔ q p.1 x.1 = true ∧ ∀ r ∈ p.2, letsB q x r = true := by
  unfold coversB; rw [Bool.and_eq_true, notAny_iff]
theorem flows_iff {q : Txt → Txt → Bool} {a b : Lab} : flowsB q a b = true ↔ ∀ x ∈ a, ∃ p ∈ b, coversB q p x = true := by
  unfold flowsB
  rw [notAny_iff]
  constructor
  · exact fun h x hx => any_iff.1 (h x hx)
  · exact fun h x hx => any_iff.2 (h x hx)

section
variable {q : Txt → Txt → Bool} (ht : ∀ a b c, q a b = true → q b c = true → q a c = true)
include ht
theorem lets_trans {p : Pol} {s r : Txt} (h1 : q s r = true) (h2 : letsB q p r = true) : letsB q p s = true := by
  rcases lets_iff.1 h2 with h | ⟨y, hy, h⟩
  · exact lets_iff.2 (.inl (ht _ _ _ h1 h))
  · exact lets_iff.2 (.inr ⟨y, hy, ht _ _ _ h1 h⟩)
theorem lets_covers {p x : Pol} {s : Txt} (hc : coversB q p x = true) (h : letsB q p s = true) : letsB q x s = true := by
  obtain ⟨c1, c2⟩ := covers_iff.1 hc
  rcases lets_iff.1 h with h | ⟨r, hr, h⟩
  · exact lets_iff.2 (.inl (ht _ _ _ h c1))
  · exact lets_trans ht h (c2 r hr)
theorem covers_trans {p x y : Pol} (h1 : coversB q p x = true) (h2 : coversB q x y = true) : coversB q p y = true := by
  obtain ⟨c1, c2⟩ := covers_iff.1 h1
  exact covers_iff.2 ⟨ht _ _ _ c1 (covers_iff.1 h2).1, fun r hr => lets_covers ht h2 (c2 r hr)⟩
theorem flows_trans {a b c : Lab} (h1 : flowsB q a b = true) (h2 : flowsB q b c = true) : flowsB q a c = true := by
  rw [flows_iff] at *
  intro x hx
  obtain ⟨p, hp, e⟩ := h1 x hx
  obtain ⟨r, hr, e'⟩ := h2 p hp
  exact ⟨r, hr, covers_trans ht e' e⟩
theorem reads_fewer {l : List Txt} {a b : Lab} (h : flowsB q a b = true) {s : Txt} (hs : s ∈ readsL q l b) : s ∈ readsL q l a := by
  unfold readsL at *
  rw [List.mem_filter] at *
  refine ⟨hs.1, ?_⟩
  rw [notAny_iff] at *
  intro x hx
  obtain ⟨p, hp, e⟩ := flows_iff.1 h x hx
  exact lets_covers ht e (hs.2 p hp)
end
theorem covers_refl {q : Txt → Txt → Bool} {p : Pol} (h1 : q p.1 p.1 = true) (h2 : ∀ r ∈ p.2, q r r = true) : coversB q p p = true :=
  covers_iff.2 ⟨h1, fun r hr => lets_iff.2 (.inr ⟨r, hr, h2 r hr⟩)⟩
theorem flows_refl {q : Txt → Txt → Bool} {a : Lab} (h : ∀ p ∈ a, q p.1 p.1 = true ∧ ∀ r ∈ p.2, q r r = true) : flowsB q a a = true :=
  flows_iff.2 fun x hx => ⟨x, hx, covers_refl (h x hx).1 (h x hx).2⟩
theorem lets_mono {q q' : Txt → Txt → Bool} (h : ∀ a b, q a b = true → q' a b = true) {p : Pol} {s : Txt} (hl : letsB q p s = true) : letsB q' p s = true := by
  rcases lets_iff.1 hl with e | ⟨r, hr, e⟩
  · exact lets_iff.2 (.inl (h _ _ e))
  · exact lets_iff.2 (.inr ⟨r, hr, h _ _ e⟩)
theorem flows_mono {q q' : Txt → Txt → Bool} (h : ∀ a b, q a b = true → q' a b = true) {a b : Lab} (hf : flowsB q a b = true) : flowsB q' a b = true := by
  rw [flows_iff] at *
  intro x hx
  obtain ⟨p, hp, e⟩ := hf x hx
  obtain ⟨c1, c2⟩ := covers_iff.1 e
  exact ⟨p, hp, covers_iff.2 ⟨h _ _ c1, fun r hr => lets_mono h (c2 r hr)⟩⟩

theorem flowsE_zero {l : List Txt} {acts : List (Txt × Txt)} {a b : Lab} (h : flowsE l acts a b = 0) : labE l acts a = 0 ∧ labE l acts b = 0 := by
  unfold flowsE at h
  split at h
  · omega
  · exact ⟨by omega, h⟩
theorem flowsR_iff {l : List Txt} {acts : List (Txt × Txt)} {a b : Lab} (h : flowsE l acts a b = 0) : flowsR l acts a b = flowsB (mayB l acts) a b := by
  unfold flowsR; rw [h]; rfl
theorem chain_law {l : List Txt} {acts : List (Txt × Txt)} {a b c : Lab} (h1 : flowsE l acts a b = 0) (h2 : flowsE l acts b c = 0) (h3 : flowsE l acts a c = 0) (h4 : flowsE l acts a a = 0) :
    flowsR l acts a a = true ∧ (flowsR l acts a b = true → flowsR l acts b c = true → flowsR l acts a c = true) := by
  rw [flowsR_iff h1, flowsR_iff h2, flowsR_iff h3, flowsR_iff h4]
  refine ⟨flows_refl fun p hp => ?_, flows_trans (q := mayB l acts) fun _ _ _ => may_trans⟩
  obtain ⟨_, h⟩ := labErr_zero (labE_check (flowsE_zero h1).1).2
  obtain ⟨_, g1, g2⟩ := h p hp
  exact ⟨may_refl g1, fun r hr => may_refl (g2 r hr)⟩
/-- Labels that are right of some chiefs are right, or wrong, of the same ones with other pairs by the pairs alone. -/
theorem labE_other {l : List Txt} {acts acts' : List (Txt × Txt)} {x : Lab} (h : labE l acts x = 0) : labE l acts' x = checkC l acts' := by
  have := (labE_check h).2
  unfold labE
  split
  · rfl
  · omega
theorem fewer_errs {l : List Txt} {acts more : List (Txt × Txt)} {a b : Lab} (h : flowsE l acts a b = 0) :
    labE l (acts ++ more) a = checkC l (acts ++ more) ∧ labE l (acts ++ more) b = checkC l (acts ++ more) ∧ flowsE l (acts ++ more) a b = checkC l (acts ++ more) := by
  obtain ⟨h1, h2⟩ := flowsE_zero h
  have e1 := labE_other (acts' := acts ++ more) h1
  have e2 := labE_other (acts' := acts ++ more) h2
  refine ⟨e1, e2, ?_⟩
  unfold flowsE
  split
  · exact e1
  · exact e2
theorem fewer_law {l : List Txt} {acts more : List (Txt × Txt)} {a b : Lab} (h : flowsE l acts a b = 0) (hf : flowsR l acts a b = true) (hc : checkC l (acts ++ more) = 0) :
    flowsR l (acts ++ more) a b = true ∧ anyBy (readsR l (acts ++ more) b) (fun s => !has (readsR l (acts ++ more) a) s) = false := by
  obtain ⟨e1, e2, e3⟩ := fewer_errs (more := more) h
  rw [hc] at e1 e2 e3
  rw [flowsR_iff h] at hf
  have hf' : flowsB (mayB l (acts ++ more)) a b = true := flows_mono (fun _ _ => may_more) hf
  refine ⟨by rw [flowsR_iff e3]; exact hf', ?_⟩
  unfold readsR
  rw [if_pos e1, if_pos e2]
  unfold anyBy
  rw [List.any_eq_false]
  intro s hs
  have := reads_fewer (q := mayB l (acts ++ more)) (fun _ _ _ => may_trans) hf' hs
  rw [has_iff.2 this]
  simp
end Go.Proofs.YtcgihpfanfbonaaGreatDoor
namespace Go.Proofs.YtcgihpfanfbonaaGreatDoor
open Go.RowKit
set_option linter.unusedVariables false
set_option linter.unusedSimpArgs false

instance instDecTxt : DecidableEq Txt := fun a b => if h : (a == b) = true then .isTrue (eq_of_beq h) else .isFalse fun e => h (by rw [e]; exact beq_self_eq_true b)
def cmpPol : Pol → Pol → Int := pairC cmpT (lexC cmpT)
theorem cmpPol_tot : Tot cmpPol := cmpT_tot.pair cmpT_tot.lex
/-- Readers of a plain policy. -/
def plainR (o : Txt) (l : List Txt) : List Txt := (dedup (srt cmpT l)).filter fun s => !(s == o)
def plainP (p : Pol) : Pol := (p.1, plainR p.1 p.2)
theorem mem_plainR {r o : Txt} {l : List Txt} : r ∈ plainR o l ↔ r ∈ l ∧ r ≠ o := by
  unfold plainR
  rw [List.mem_filter, mem_dedup, mem_srt]
  simp
theorem plainR_rising (o : Txt) (l : List Txt) : Rising cmpT (plainR o l) := (cmpT_tot.dedup_rising (cmpT_tot.srt_up l)).sublist List.filter_sublist
theorem plainR_self {o : Txt} {l : List Txt} (h : Rising cmpT l) (ho : o ∉ l) : plainR o l = l := by
  unfold plainR
  rw [srt_of_up h.up, dedup_self cmpT_tot h, List.filter_eq_self]
  intro a ha
  simp
  intro e
  subst e
  exact ho ha
theorem plainP_plain (p : Pol) : plainP (plainP p) = plainP p := by
  unfold plainP
  rw [plainR_self (plainR_rising _ _) (fun h => (mem_plainR.1 h).2 rfl)]
/-- All policies of a label, plain, rising, each once. -/
def allOf (l : Lab) : Lab := dedup (srt cmpPol (l.map plainP))
theorem allOf_rising (l : Lab) : Rising cmpPol (allOf l) := cmpPol_tot.dedup_rising (cmpPol_tot.srt_up _)
theorem mem_allOf {p : Pol} {l : Lab} : p ∈ allOf l ↔ ∃ x ∈ l, plainP x = p := by
  unfold allOf
  rw [mem_dedup, mem_srt, List.mem_map]
/-- Is there another one that covers it and stays? -/
def goneB (q : Txt → Txt → Bool) (all : Lab) (x : Pol) : Bool := all.any fun p => decide (p ≠ x) && coversB q p x && (decide (cmpPol p x < 0) || !coversB q x p)
def normOf (q : Txt → Txt → Bool) (all : Lab) : Lab := all.filter fun x => !goneB q all x
def normL (q : Txt → Txt → Bool) (l : Lab) : Lab := normOf q (allOf l)
theorem norm_sub (q : Txt → Txt → Bool) (l : Lab) : (normL q l).Sublist (allOf l) := List.filter_sublist
theorem norm_rising (q : Txt → Txt → Bool) (l : Lab) : Rising cmpPol (normL q l) := (allOf_rising l).sublist (norm_sub q l)
theorem mem_norm {q : Txt → Txt → Bool} {l : Lab} {p : Pol} (h : p ∈ normL q l) : ∃ x ∈ l, plainP x = p := mem_allOf.1 ((norm_sub q l).subset h)
theorem norm_plain {q : Txt → Txt → Bool} {l : Lab} {p : Pol} (h : p ∈ normL q l) : plainP p = p := by
  obtain ⟨x, _, rfl⟩ := mem_norm h
  exact plainP_plain x
/-- What is all plain, rising and each once is its own `allOf`. -/
theorem allOf_self {l : Lab} (h : Rising cmpPol l) (hp : ∀ p ∈ l, plainP p = p) : allOf l = l := by
  unfold allOf
  have e : l.map plainP = l := by
    rw [List.map_congr_left (g := id) hp, List.map_id]
  rw [e, srt_of_up h.up, dedup_self cmpPol_tot h]
theorem norm_self (q : Txt → Txt → Bool) (l : Lab) : normL q (normL q l) = normL q l := by
  have e : allOf (normL q l) = normL q l := allOf_self (norm_rising q l) fun p hp => norm_plain hp
  show normOf q (allOf (normL q l)) = _
  rw [e]
  unfold normOf
  rw [List.filter_eq_self]
  intro x hx
  have h1 : goneB q (allOf l) x = false := by
    have := (List.mem_filter.1 hx).2
    simpa using this
  have : goneB q (normL q l) x = false := by
    unfold goneB at h1 ⊢
    rw [List.any_eq_false] at h1 ⊢
    exact fun p hp => h1 p ((norm_sub q l).subset hp)
  rw [this]; rfl
section
variable {q : Txt → Txt → Bool}
theorem lets_plain (p : Pol) (s : Txt) : letsB q (plainP p) s = letsB q p s := by
  rw [Bool.eq_iff_iff, lets_iff, lets_iff]
  unfold plainP
  constructor
  · rintro (h | ⟨r, hr, h⟩)
    · exact .inl h
    · exact .inr ⟨r, (mem_plainR.1 hr).1, h⟩
  · rintro (h | ⟨r, hr, h⟩)
    · exact .inl h
    · by_cases e : r = p.1
      · subst e; exact .inl h
      · exact .inr ⟨r, mem_plainR.2 ⟨hr, e⟩, h⟩
theorem covers_plain_right (p x : Pol) : coversB q p (plainP x) = coversB q p x := by
  rw [Bool.eq_iff_iff, covers_iff, covers_iff]
  constructor
  · rintro ⟨h1, h2⟩
    exact ⟨h1, fun r hr => by rw [← lets_plain]; exact h2 r hr⟩
  · rintro ⟨h1, h2⟩
    exact ⟨h1, fun r hr => by rw [lets_plain]; exact h2 r hr⟩
theorem covers_plain_left (p x : Pol) : coversB q (plainP p) x = coversB q p x := by
  rw [Bool.eq_iff_iff, covers_iff, covers_iff]
  constructor
  · rintro ⟨h1, h2⟩
    refine ⟨h1, fun r hr => ?_⟩
    by_cases e : r = p.1
    · subst e; exact lets_iff.2 (.inl h1)
    · exact h2 r (mem_plainR.2 ⟨hr, e⟩)
  · rintro ⟨h1, h2⟩
    exact ⟨h1, fun r hr => h2 r (mem_plainR.1 hr).1⟩
/-- Each that is gone is covered by one that stays. -/
theorem norm_covers (hr : ∀ a b c : Txt, q a b = true → q b c = true → q a c = true) {all : Lab} (hra : Rising cmpPol all) (hc : ∀ p ∈ all, coversB q p p = true) :
    ∀ (n : Nat) (x : Pol), x ∈ all → (all.filter fun p => decide (p ≠ x) && coversB q p x && (decide (cmpPol p x < 0) || !coversB q x p)).length ≤ n → ∃ p ∈ normOf q all, coversB q p x = true := by
  intro n
  induction n with
  | zero =>
    intro x hx hn
    refine ⟨x, List.mem_filter.2 ⟨hx, ?_⟩, hc x hx⟩
    have : goneB q all x = false := by
      unfold goneB
      rw [List.any_eq_false]
      intro p hp h
      have : p ∈ all.filter fun p => decide (p ≠ x) && coversB q p x && (decide (cmpPol p x < 0) || !coversB q x p) := List.mem_filter.2 ⟨hp, h⟩
      have := List.length_pos_of_mem this
      omega
    rw [this]; rfl
  | succ n ih =>
    intro x hx hn
    cases hg : goneB q all x with
    | false => exact ⟨x, List.mem_filter.2 ⟨hx, by rw [hg]; rfl⟩, hc x hx⟩
    | true =>
      unfold goneB at hg
      rw [List.any_eq_true] at hg
      obtain ⟨p, hp, hk⟩ := hg
      have kills : ∀ {a b : Pol}, (decide (a ≠ b) && coversB q a b && (decide (cmpPol a b < 0) || !coversB q b a)) = true ↔ a ≠ b ∧ coversB q a b = true ∧ (cmpPol a b < 0 ∨ coversB q b a = false) := by
        intro a b
        simp [and_assoc]
      rw [kills] at hk
      obtain ⟨k1, k2, k3⟩ := hk
      have less : (all.filter fun y => decide (y ≠ p) && coversB q y p && (decide (cmpPol y p < 0) || !coversB q p y)).length < (all.filter fun y => decide (y ≠ x) && coversB q y x && (decide (cmpPol y x < 0) || !coversB q x y)).length := by
        have nd : (all.filter fun y => decide (y ≠ p) && coversB q y p && (decide (cmpPol y p < 0) || !coversB q p y)).Nodup := (cmpPol_tot.nodup hra).sublist List.filter_sublist
        have nd2 : (p :: all.filter fun y => decide (y ≠ p) && coversB q y p && (decide (cmpPol y p < 0) || !coversB q p y)).Nodup := by
          rw [List.nodup_cons]
          refine ⟨fun h => ?_, nd⟩
          have := (kills.1 (List.mem_filter.1 h).2).1
          exact this rfl
        have := nd2.length_le_of_subset (l₂ := all.filter fun y => decide (y ≠ x) && coversB q y x && (decide (cmpPol y x < 0) || !coversB q x y)) (by
          intro y hy
          rcases List.mem_cons.1 hy with rfl | hy
          · exact List.mem_filter.2 ⟨hp, kills.2 ⟨k1, k2, k3⟩⟩
          · obtain ⟨hy1, hy2⟩ := List.mem_filter.1 hy
            obtain ⟨j1, j2, j3⟩ := kills.1 hy2
            have hyx : coversB q y x = true := covers_trans hr j2 k2
            refine List.mem_filter.2 ⟨hy1, kills.2 ?_⟩
            cases hxy : coversB q x y with
            | false =>
              refine ⟨fun e => ?_, hyx, .inr rfl⟩
              subst e
              rw [hc y hy1] at hxy; cases hxy
            | true =>
              have hpy : coversB q p y = true := covers_trans hr k2 hxy
              have hxp : coversB q x p = true := covers_trans hr hxy j2
              have l1 : cmpPol y p < 0 := by rcases j3 with h | h; exact h; rw [hpy] at h; cases h
              have l2 : cmpPol p x < 0 := by rcases k3 with h | h; exact h; rw [hxp] at h; cases h
              have l3 := cmpPol_tot.trans _ _ _ l1 l2
              refine ⟨fun e => ?_, hyx, .inl l3⟩
              subst e
              rw [cmpPol_tot.self] at l3; omega)
        rw [List.length_cons] at this
        omega
      obtain ⟨z, hz, hzp⟩ := ih p hp (by omega)
      exact ⟨z, hz, covers_trans hr hzp k2⟩
theorem norm_covers' (hr : ∀ a b c : Txt, q a b = true → q b c = true → q a c = true) {l : Lab} (hc : ∀ p ∈ l, coversB q p p = true) {x : Pol} (hx : x ∈ l) : ∃ p ∈ normL q l, coversB q p x = true := by
  have hc' : ∀ p ∈ allOf l, coversB q p p = true := fun p hp => by
    obtain ⟨y, hy, rfl⟩ := mem_allOf.1 hp
    rw [covers_plain_left, covers_plain_right]
    exact hc y hy
  obtain ⟨p, hp, h⟩ := norm_covers hr (allOf_rising l) hc' _ (plainP x) (mem_allOf.2 ⟨x, hx, rfl⟩) (Nat.le_refl _)
  rw [covers_plain_right] at h
  exact ⟨p, hp, h⟩
/-- A label may go where its normal form may, and it to where it may. -/
theorem flows_to_norm (hr : ∀ a b c : Txt, q a b = true → q b c = true → q a c = true) {l : Lab} (hc : ∀ p ∈ l, coversB q p p = true) : flowsB q l (normL q l) = true :=
  flows_iff.2 fun x hx => norm_covers' hr hc hx
theorem flows_of_norm {l m : Lab} (h : ∀ x ∈ l, ∃ p ∈ m, coversB q p x = true) : flowsB q (normL q l) m = true := by
  refine flows_iff.2 fun x hx => ?_
  obtain ⟨y, hy, rfl⟩ := mem_norm hx
  obtain ⟨p, hp, hc⟩ := h y hy
  exact ⟨p, hp, by rw [covers_plain_right]; exact hc⟩
end
/-- How many there can be. -/
theorem plainR_few {l : List Txt} (hl : l.length ≤ 6) {o : Txt} (ho : o ∈ l) : (plainR o l).length ≤ 5 := by
  have nd : (o :: plainR o l).Nodup := by
    rw [List.nodup_cons]
    exact ⟨fun h => (mem_plainR.1 h).2 rfl, cmpT_tot.nodup (plainR_rising o l)⟩
  have := nd.length_le_of_subset (l₂ := l) (by
    intro y hy
    rcases List.mem_cons.1 hy with rfl | hy
    · exact ho
    · exact (mem_plainR.1 hy).1)
  simp at this
  omega
theorem few_pols {l : List Txt} (hl : l.length ≤ 6) {m : Lab} (hm : Rising cmpPol m) (hp : ∀ p ∈ m, plainP p = p) (hin : ∀ p ∈ m, p.1 ∈ l ∧ ∀ s ∈ p.2, s ∈ l) : m.length ≤ 192 := by
  have h1 : m ⊆ l.flatMap fun o => (subs (plainR o l)).map fun r => (o, r) := by
    intro p hpm
    obtain ⟨ho, hs⟩ := hin p hpm
    refine List.mem_flatMap.2 ⟨p.1, ho, List.mem_map.2 ⟨p.2, mem_subs ?_, rfl⟩⟩
    have e : plainR p.1 p.2 = p.2 := congrArg Prod.snd (hp p hpm)
    rw [← e]
    refine cmpT_tot.sublist (plainR_rising _ _) (plainR_rising _ _) fun r hr => ?_
    obtain ⟨r1, r2⟩ := mem_plainR.1 hr
    exact mem_plainR.2 ⟨hs r r1, r2⟩
  have h2 := (cmpPol_tot.nodup hm).length_le_of_subset h1
  have h3 : ∀ k : List Txt, (∀ o ∈ k, o ∈ l) → (k.flatMap fun o => (subs (plainR o l)).map fun r => (o, r)).length ≤ k.length * 32 := by
    intro k
    induction k with
    | nil => intro _; simp
    | cons o k ih =>
      intro hk
      have h4 := plainR_few hl (hk o (by simp))
      have h5 : 2 ^ (plainR o l).length ≤ 2 ^ 5 := Nat.pow_le_pow_right (by omega) h4
      have h6 := ih fun x hx => hk x (List.mem_cons_of_mem _ hx)
      rw [List.flatMap_cons, List.length_append, List.length_map, subs_length, List.length_cons, Nat.add_mul]
      omega
  have := h3 l fun _ h => h
  omega
end Go.Proofs.YtcgihpfanfbonaaGreatDoor
namespace Go.Proofs.YtcgihpfanfbonaaGreatDoor
open Go.RowKit
set_option linter.unusedVariables false
set_option linter.unusedSimpArgs false

def killAt (q : Txt → Txt → Bool) (X : Lab) (i k : Nat) : Bool := match X[k]?, X[i]? with
  | some p, some x => decide (i ≠ k) && (coversB q p x && (decide (k < i) || !coversB q x p))
  | _, _ => false
/-- Is there one of the first so many for which it goes? -/
def goneTo (q : Txt → Txt → Bool) (X : Lab) (i k : Nat) : Bool := (List.range k).any (killAt q X i)
theorem goneTo_zero (q : Txt → Txt → Bool) (X : Lab) (i : Nat) : goneTo q X i 0 = false := rfl
theorem goneTo_succ (q : Txt → Txt → Bool) (X : Lab) (i k : Nat) : goneTo q X i (k + 1) = (goneTo q X i k || killAt q X i k) := by
  unfold goneTo
  rw [List.range_succ, List.any_append]
  simp
theorem killAt_eq (q : Txt → Txt → Bool) {X : Lab} {i k : Nat} (hi : i < X.length) (hk : k < X.length) : killAt q X i k = (decide (i ≠ k) && (coversB q X[k] X[i] && (decide (k < i) || !coversB q X[i] X[k]))) := by
  unfold killAt
  rw [List.getElem?_eq_getElem hi, List.getElem?_eq_getElem hk]
theorem rising_lt {α : Type} {f : α → α → Int} (hf : Tot f) {X : List α} (h : Rising f X) {i k : Nat} (hi : i < X.length) (hk : k < X.length) : f X[k] X[i] < 0 ↔ k < i := by
  have hp := List.pairwise_iff_getElem.1 h
  constructor
  · intro h1
    apply Decidable.byContradiction
    intro hn
    by_cases e : i = k
    · subst e
      rw [hf.self] at h1; omega
    · have h2 := hp i k hi hk (by omega)
      have := hf.anti X[i] X[k]
      omega
  · exact fun hlt => hp k i hk hi hlt
theorem rising_ne {α : Type} {f : α → α → Int} (hf : Tot f) {X : List α} (h : Rising f X) {i k : Nat} (hi : i < X.length) (hk : k < X.length) : X[k] ≠ X[i] ↔ i ≠ k := by
  constructor
  · rintro h1 rfl; exact h1 rfl
  · intro h1 e
    have h2 := rising_lt hf h hi hk
    have h3 := rising_lt hf h hk hi
    rw [e] at h2 h3
    rw [hf.self] at h2 h3
    omega
theorem goneTo_all (q : Txt → Txt → Bool) {X : Lab} (h : Rising cmpPol X) {i : Nat} (hi : i < X.length) : goneTo q X i X.length = goneB q X X[i] := by
  rw [Bool.eq_iff_iff]
  unfold goneTo goneB
  rw [List.any_eq_true, List.any_eq_true]
  constructor
  · rintro ⟨k, hk, e⟩
    have hk' := List.mem_range.1 hk
    rw [killAt_eq q hi hk'] at e
    refine ⟨X[k], List.getElem_mem hk', ?_⟩
    have h1 := rising_ne cmpPol_tot h hi hk'
    have h2 := rising_lt cmpPol_tot h hi hk'
    simp only [Bool.and_eq_true, Bool.or_eq_true, decide_eq_true_eq] at e ⊢
    exact ⟨⟨h1.2 e.1, e.2.1⟩, e.2.2.imp h2.2 id⟩
  · rintro ⟨p, hp, e⟩
    obtain ⟨k, hk', rfl⟩ := List.getElem_of_mem hp
    refine ⟨k, List.mem_range.2 hk', ?_⟩
    rw [killAt_eq q hi hk']
    have h1 := rising_ne cmpPol_tot h hi hk'
    have h2 := rising_lt cmpPol_tot h hi hk'
    simp only [Bool.and_eq_true, Bool.or_eq_true, decide_eq_true_eq] at e ⊢
    exact ⟨h1.1 e.1.1, e.1.2, e.2.imp h2.1 id⟩
def outTo (q : Txt → Txt → Bool) (X : Lab) (i : Nat) : Lab := (X.take i).filter fun x => !goneB q X x
theorem outTo_hit {q : Txt → Txt → Bool} {X : Lab} {i : Nat} (hi : i < X.length) (h : goneB q X X[i] = false) : outTo q X (i + 1) = outTo q X i ++ [X[i]] := by
  unfold outTo
  rw [List.take_succ_eq_append_getElem hi, List.filter_append]
  simp [h]
theorem outTo_miss {q : Txt → Txt → Bool} {X : Lab} {i : Nat} (hi : i < X.length) (h : goneB q X X[i] = true) : outTo q X (i + 1) = outTo q X i := by
  unfold outTo
  rw [List.take_succ_eq_append_getElem hi, List.filter_append]
  simp [h]
theorem outTo_le (q : Txt → Txt → Bool) (X : Lab) (i : Nat) : (outTo q X i).length ≤ i := by
  unfold outTo
  have := List.length_filter_le (fun x => !goneB q X x) (X.take i)
  rw [List.length_take] at this
  omega
theorem outTo_all (q : Txt → Txt → Bool) (l : Lab) : outTo q (allOf l) (allOf l).length = normL q l := by
  unfold outTo normL normOf
  rw [List.take_length]
/-- Sorted, each once, however sorted. -/
theorem sorted_all {l : Lab} {d : Lab} (hp : d.Perm (l.map plainP)) (hu : d.Pairwise fun x y => cmpPol x y ≤ 0) : dedup d = allOf l := by
  have : d = srt cmpPol (l.map plainP) := cmpPol_tot.unique (hp.trans (srt_perm _ _).symm) hu (cmpPol_tot.srt_up _)
  rw [this]; rfl
theorem okPol_plain {p : Pol} (h : okPol p) : okPol (plainP p) := ⟨h.1, fun s hs => h.2 s (mem_plainR.1 hs).1⟩
theorem okLab_all {l : Lab} (h : okLab l) : okLab (allOf l) := fun p hp => by
  obtain ⟨x, hx, rfl⟩ := mem_allOf.1 hp
  exact okPol_plain (h x hx)
theorem okLab_norm {q : Txt → Txt → Bool} {l : Lab} (h : okLab l) : okLab (normL q l) := fun p hp => okLab_all h p ((norm_sub q l).subset hp)
theorem allOf_le (l : Lab) : (allOf l).length ≤ l.length := by
  have h1 : ∀ (d : Lab), (dedup d).length ≤ d.length := by
    have : ∀ (p : Pol) (l : Lab), (dedupFrom p l).length ≤ l.length := by
      intro p l
      induction l generalizing p with
      | nil => exact Nat.le_refl _
      | cons x l ih =>
        unfold dedupFrom
        split
        · have := ih p; simp; omega
        · have := ih x; simp; omega
    intro d
    cases d with
    | nil => exact Nat.le_refl _
    | cons x d => have := this x d; show (x :: dedupFrom x d).length ≤ _; simp; exact this
  have h2 := h1 (srt cmpPol (l.map plainP))
  have h3 := (srt_perm cmpPol (l.map plainP)).length_eq
  rw [h3, List.length_map] at h2
  exact h2
end Go.Proofs.YtcgihpfanfbonaaGreatDoor
