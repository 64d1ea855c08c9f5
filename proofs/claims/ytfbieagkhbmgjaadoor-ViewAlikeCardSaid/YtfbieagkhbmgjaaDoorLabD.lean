/-
  label.among: who of all chiefs acts for whom, as a set of pairs.
-/
import Derived.Test.YtfbieagkhbmgjaaDoorLabC
namespace Go.Proofs.YtfbieagkhbmgjaaDoor
open Go.RowKit Go.Maps
set_option linter.unusedVariables false
set_option linter.unusedSimpArgs false

theorem grown_below {w a b : World} {M : Option Nat} (h : w.grownBy a M) (hb : Below a.heap.size a b) : w.grownBy b M :=
  ⟨hb.os.trans h.os, hb.tape.trans h.tape, hb.output.trans h.output, Nat.le_trans h.size hb.size, fun k hk hne => (hb.block k (Nat.lt_of_lt_of_le hk h.size)).trans (h.block k hk hne)⟩
theorem grown_grown {w a b : World} {M : Option Nat} (h : w.grownBy a M) (h' : a.grownBy b M) : w.grownBy b M :=
  ⟨h'.os.trans h.os, h'.tape.trans h.tape, h'.output.trans h.output, Nat.le_trans h.size h'.size, fun k hk hne => (h'.block k (Nat.lt_of_lt_of_le hk h.size) hne).trans (h.block k hk hne)⟩
theorem grown_cell {w a : World} {M : Option Nat} (h : w.grownBy a M) {b o : Nat} {v : Value} (hc : w.cell? ⟨b, o, none⟩ = some v) (hne : some b ≠ M) : a.cell? ⟨b, o, none⟩ = some v :=
  (World.cell?_of_block (w := w) (h.block b (cell_lt hc) hne)).trans hc
theorem grown_frozen {w a : World} {M : Option Nat} (h : w.grownBy a M) {b o : Nat} (hb : b < w.heap.size) (hne : some b ≠ M) : a.frozen? ⟨b, o, none⟩ = w.frozen? ⟨b, o, none⟩ :=
  World.frozen?_of_block (w := w) (h.block b hb hne)

theorem alloc_frozen_new (w : World) (A : Array Value) (t : TypeId) (j : Nat) : (w.alloc (.cells A t)).frozen? ⟨w.heap.size, j, none⟩ = false := by
  have h : (w.alloc (.cells A t)).heap[w.heap.size]? = some (.cells A t) := heap_alloc_new w _
  unfold World.frozen?
  simp only [h]
  simp
theorem cell_no_map {w : World} {b o M n : Nat} {v : Value} {R : Value → Option (DataW Unit × List MemPlace)} {D : DataW Unit} (hc : w.cell? ⟨b, o, none⟩ = some v) (hM : w.ownsMap Tryd.prog 33 R M n D) : b ≠ M := by
  rintro rfl
  obtain ⟨es, cl, h, _⟩ := hM
  simp [World.cell?, h] at hc
/-- Does one act for another one, as it is told of right chiefs? -/
def mayB (l : List Txt) (acts : List (Txt × Txt)) (a b : Txt) : Bool := has l b && has (forL l acts b) a
/-- All pairs, of the first ones. -/
def ptsTo (l : List Txt) (acts : List (Txt × Txt)) (k : Nat) : List (Txt × Txt) := (l.take k).flatMap fun b => (forL l acts b).map fun a => (a, b)
def ptsIn (l : List Txt) (acts : List (Txt × Txt)) (k : Nat) (b : Txt) (j : Nat) : List (Txt × Txt) := ptsTo l acts k ++ ((forL l acts b).take j).map fun a => (a, b)
def keyL (x : Txt × Txt) : Lit := pk x.1 x.2
def setD (p : List (Txt × Txt)) : DataW Unit := setOf (.agg []) (p.map keyL)
theorem setD_snoc (p : List (Txt × Txt)) (x : Txt × Txt) : setD (p ++ [x]) = (setD p).put (keyL x) (.agg []) := by
  unfold setD; rw [List.map_append]; exact setOf_snoc _ _ _
theorem ptsIn_zero (l : List Txt) (acts : List (Txt × Txt)) (k : Nat) (b : Txt) : ptsIn l acts k b 0 = ptsTo l acts k := by simp [ptsIn]
theorem ptsIn_succ {l : List Txt} {acts : List (Txt × Txt)} {k : Nat} {b : Txt} {j : Nat} (hj : j < (forL l acts b).length) : ptsIn l acts k b (j + 1) = ptsIn l acts k b j ++ [((forL l acts b)[j], b)] := by
  unfold ptsIn; rw [List.take_succ_eq_append_getElem hj]; simp only [List.map_append, List.map_cons, List.map_nil, List.append_assoc]
theorem ptsIn_all {l : List Txt} {acts : List (Txt × Txt)} {k : Nat} (hk : k < l.length) : ptsIn l acts k l[k] (forL l acts l[k]).length = ptsTo l acts (k + 1) := by
  unfold ptsIn ptsTo; rw [List.take_length, List.take_succ_eq_append_getElem hk]; simp only [List.flatMap_append, List.flatMap_cons, List.flatMap_nil, List.append_nil]
theorem forL_le (l : List Txt) (acts : List (Txt × Txt)) (b : Txt) : (forL l acts b).length ≤ l.length := List.length_filter_le _ _
theorem ptsTo_le (l : List Txt) (acts : List (Txt × Txt)) (k : Nat) (hk : k ≤ l.length) : (ptsTo l acts k).length ≤ k * l.length := by
  induction k with
  | zero => simp [ptsTo]
  | succ k ih =>
    have := ih (by omega)
    rw [← ptsIn_all (show k < l.length by omega)]
    have h := forL_le l acts l[k]
    unfold ptsIn
    rw [List.take_length, List.length_append, List.length_map, Nat.add_mul]
    omega
theorem mem_pts {l : List Txt} {acts : List (Txt × Txt)} {a b : Txt} : (a, b) ∈ ptsTo l acts l.length ↔ mayB l acts a b = true := by
  unfold ptsTo mayB
  rw [List.take_length]
  simp only [List.mem_flatMap, List.mem_map, Prod.mk.injEq, Bool.and_eq_true, has_iff]
  constructor
  · rintro ⟨b', hb', a', ha', rfl, rfl⟩; exact ⟨hb', ha'⟩
  · rintro ⟨h1, h2⟩; exact ⟨b, h1, a, h2, rfl, rfl⟩
theorem setD_has {l : List Txt} {acts : List (Txt × Txt)} (hl : ∀ s ∈ l, okTxt s) {a b : Txt} (ha : okTxt a) (hb : okTxt b) : Maps.has (setD (ptsTo l acts l.length)) (pk a b) = mayB l acts a b := by
  unfold setD
  rw [has_setOf _ _ _ (fun x hx => by
    obtain ⟨y, _, rfl⟩ := List.mem_map.1 hx
    trivial)]
  rw [Bool.eq_iff_iff, List.any_eq_true, ← mem_pts]
  constructor
  · rintro ⟨x, hx, he⟩
    obtain ⟨⟨c, d⟩, hy, rfl⟩ := List.mem_map.1 hx
    have hm := mem_pts.1 hy
    unfold mayB at hm
    rw [Bool.and_eq_true, has_iff, has_iff] at hm
    have hc : okTxt c := hl c (List.mem_filter.1 hm.2).1
    have hd : okTxt d := hl d hm.1
    by_cases e : pk c d = pk a b
    · obtain ⟨rfl, rfl⟩ := pk_inj hc hd ha hb e
      exact hy
    · rw [show keyL (c, d) = pk c d from rfl, sameKey_ne e] at he
      cases he
  · intro h
    exact ⟨pk a b, List.mem_map.2 ⟨(a, b), h, rfl⟩, by simp [pk, Lit.sameKey]⟩

set_option maxHeartbeats 1000000 in
set_option maxRecDepth 100000 in
theorem among_calls (l : List Txt) (acts : List (Txt × Txt)) (v u : Value) (w : World) (hv : Strs w l v) (hu : Prs w acts u) (hc : checkC l acts = 0) (hl : ∀ s ∈ l, okTxt s) :
    Calls Tryd.prog 50 #[v, u] w fun e w' => ∃ r, e = .returned (.agg #[v, .map (some r)]) ∧ PairsAt w' r (mayB l acts) ∧ Below w.heap.size w w' := by
  have hv0 := hv
  have hu0 := hu
  obtain ⟨b0, o0, c0, p0, rfl, hlc, hcm, hp0, hcells0⟩ := hv.cells
  obtain ⟨b1, o1, c1, p1, rfl, hlc1, hcm1, _⟩ := hu.cells
  clear hv hu
  obtain ⟨z1, _, _, _⟩ := checkC_zero hc
  have HC := Lib.hid hc
  have HL := Lib.hid hl
  have hmm := @run_makeMap Tryd.prog
  clear hc hl
  go_enter Tryd.func50, Tryd.ntmps50
  go_wp2
  obtain ⟨W0, eW⟩ : ∃ W0, ((w.alloc (.cells #[.slice none 0 0, .map none] 92)).alloc (.map #[] 0)).alloc (.cells #[.slice p0 l.length c0, .map (some (w.heap.size + 1))] 92) = W0 := ⟨_, rfl⟩
  have hW : Below w.heap.size w W0 := by rw [← eW]; exact (((Below.refl _ _).alloc (Nat.le_refl _) _).alloc (by simp) _).alloc (by simp; omega) _
  have hz : W0.heap.size = w.heap.size + 3 := by rw [← eW]; simp
  have hM : W0.ownsMap Tryd.prog 33 (unitElem (H := Unit)) (w.heap.size + 1) 0 (setD (ptsTo l acts 0)) := by
    rw [← eW]
    have h := World.ownsMap_made (H := Unit) (w.alloc (.cells #[.slice none 0 0, .map none] 92)) Tryd.prog 33 unitElem
    have e : (w.alloc (.cells #[.slice none 0 0, .map none] 92)).heap.size = w.heap.size + 1 := by simp
    rw [e] at h
    exact h.alloc _
  have hA0 : W0.cell? ⟨w.heap.size, 0, none⟩ = some (.slice none 0 0) := by
    rw [← eW, alloc_cell_old _ _ _ _ (by simp; omega), alloc_cell_old _ _ _ _ (by simp), alloc_cell_new _ _ _ _ _ rfl]; rfl
  have hA1 : W0.cell? ⟨w.heap.size, 1, none⟩ = some (.map none) := by
    rw [← eW, alloc_cell_old _ _ _ _ (by simp; omega), alloc_cell_old _ _ _ _ (by simp), alloc_cell_new _ _ _ _ _ rfl]; rfl
  have hB0 : W0.cell? ⟨w.heap.size + 1 + 1, 0, none⟩ = some (.slice p0 l.length c0) := by
    rw [← eW, alloc_cell_new _ _ _ _ _ (by simp)]; rfl
  have hB1 : W0.cell? ⟨w.heap.size + 1 + 1, 1, none⟩ = some (.map (some (w.heap.size + 1))) := by
    rw [← eW, alloc_cell_new _ _ _ _ _ (by simp)]; rfl
  have hfr : ∀ j, W0.frozen? ⟨w.heap.size, j, none⟩ = false := fun j => by
    rw [← eW, World.frozen?_alloc_old _ _ _ (by simp; omega), World.frozen?_alloc_old _ _ _ (by simp)]
    exact alloc_frozen_new _ _ _ _
  rw [eW]
  have HW := Lib.hid hW
  have HZ := Lib.hid hz
  have HA0 := Lib.hid hA0
  have HA1 := Lib.hid hA1
  have HB0 := Lib.hid hB0
  have HB1 := Lib.hid hB1
  have HFR := Lib.hid hfr
  clear eW hW hz hA0 hA1 hB0 hB1 hfr
  go_loopw [17] (fun i wr => ∃ k : Nat, k ≤ l.length ∧ i = .int .i64 k ∧ W0.grownBy wr (some (w.heap.size + 1)) ∧ wr.ownsMap Tryd.prog 33 (unitElem (H := Unit)) (w.heap.size + 1) (ptsTo l acts k).length (setD (ptsTo l acts k))) (fun i _ => l.length - (intOf i).toNat)
  case atStart => exact ⟨0, Nat.zero_le _, rfl, World.grownBy.refl _ _, hM⟩
  case round =>
    clear hM
    obtain ⟨k, hk, rfl, hg, hM⟩ := hrel
    have hbw : Below w.heap.size w wr := HW.out.grown hg HW.out.size (fun q hq => by cases hq; omega)
    by_cases hlt : k < l.length
    · have hcell0 := hcells0 k hlt
      have hcell : wr.cell? ⟨b0, o0 + k, none⟩ = some (.string l[k]) := (hbw.cell (cell_lt hcell0)).trans hcell0
      obtain rfl := hp0 (by omega)
      have HG := Lib.hid hg
      have HM := Lib.hid hM
      have HBW := Lib.hid hbw
      clear hp0 hcells0 hcell0 hg hM hbw
      go_wp2_with (fail)
      refine (for_calls l acts l[k] _ _ _ (hv0.stays (keeps_of_below HBW.out)) (hu0.stays (keeps_of_below HBW.out))).mono ?_
      rintro e w1 ⟨x1, rfl, hx1, hb1⟩
      have hhas : has l l[k] = true := has_iff.2 (List.getElem_mem hlt)
      have e1 : forE l acts l[k] = 0 := by unfold forE; rw [if_neg (by have := HC.out; omega), hhas]; rfl
      have e2 : forR l acts l[k] = forL l acts l[k] := by unfold forR; rw [if_pos e1]
      rw [e2] at hx1
      rw [e1]
      have hlen := forL_le l acts l[k]
      have hokf : ∀ s ∈ forL l acts l[k], okTxt s := fun s hs => HL.out s (List.mem_filter.1 hs).1
      have hokk : okTxt l[k] := HL.out _ (List.getElem_mem hlt)
      have hpl := ptsTo_le l acts k (by omega)
      have hp36 : (ptsTo l acts k).length ≤ 36 := Nat.le_trans hpl (Nat.mul_le_mul (show k ≤ 6 by omega) z1)
      have HALL : Hid (ptsIn l acts k l[k] (forL l acts l[k]).length = ptsTo l acts (k + 1)) := ptsIn_all hlt
      have HSUCC : Hid (∀ j, (hj : j < (forL l acts l[k]).length) → ptsIn l acts k l[k] (j + 1) = ptsIn l acts k l[k] j ++ [((forL l acts l[k])[j], l[k])]) := fun j hj => ptsIn_succ hj
      have HLEN : Hid (∀ j, (ptsIn l acts k l[k] j).length ≤ (ptsTo l acts k).length + j) := fun j => by unfold ptsIn; simp; omega
      have hg1 : W0.grownBy w1 (some (w.heap.size + 1)) := grown_below HG.out hb1
      have hM1 : w1.ownsMap Tryd.prog 33 (unitElem (H := Unit)) (w.heap.size + 1) (ptsIn l acts k l[k] 0).length (setD (ptsIn l acts k l[k] 0)) := by
        rw [ptsIn_zero]
        exact HM.out.kept (row := none) ⟨hb1.os, hb1.tape, hb1.output, hb1.size, fun q hq _ => hb1.block q hq⟩ (by simp)
      clear e1 e2 hhas hpl hcell
      generalize forL l acts l[k] = fl at *
      generalize l[k] = lk at *
      obtain ⟨b3, o3, c3, p3, rfl, hl3, hc3, hp3, hcells3⟩ := hx1.cells
      have HNE : Hid (∀ i (hi : i < fl.length), some b3 ≠ some (w.heap.size + 1)) := fun i hi e => cell_no_map (hcells3 i hi) hM1 (by simpa using e)
      go_wp2
      go_loopw [30] (fun i wr => ∃ j : Nat, j ≤ fl.length ∧ i = .int .i64 j ∧ W0.grownBy wr (some (w.heap.size + 1)) ∧ w1.grownBy wr (some (w.heap.size + 1)) ∧ wr.ownsMap Tryd.prog 33 (unitElem (H := Unit)) (w.heap.size + 1) (ptsIn l acts k lk j).length (setD (ptsIn l acts k lk j))) (fun i _ => fl.length - (intOf i).toNat)
      case atStart => exact ⟨0, Nat.zero_le _, rfl, hg1, World.grownBy.refl _ _, hM1⟩
      case round =>
        clear hg1 hM1
        obtain ⟨j, hj, rfl, hg, hg2, hM⟩ := hrel
        by_cases hltj : j < fl.length
        · have hcj := hcells3 j hltj
          have hcell : wr.cell? ⟨b3, o3 + j, none⟩ = some (.string fl[j]) := grown_cell hg2 hcj (HNE.out j hltj)
          obtain rfl := hp3 (by omega)
          have hcB : wr.cell? ⟨w.heap.size + 1 + 1, 1, none⟩ = some (.map (some (w.heap.size + 1))) := grown_cell hg HB1.out (by simp)
          have hok := hokf fl[j] (List.getElem_mem hltj)
          have HG := Lib.hid hg
          have HG2 := Lib.hid hg2
          have hle := HLEN.out j
          have HSJ := Lib.hid (HSUCC.out j hltj)
          clear hp3 hcells3 hcj hg hg2
          go_wp2_with (at_mapUpdate; refine wpList_mapUpdate_own _ rfl _ _ _ 90 rfl 33 104 law_pair Tryd.underlying90 _ (w.heap.size + 1) _ _ rfl hM ?c1 _ _ _ rfl rfl (pk_key hok hokk) (.agg []) [] unitElem_mk ?_)
          case c1 => unfold maxLen; omega
          · intro w2 hM2 hgr
            go_wp2
            go_roundw
            case rel =>
              refine ⟨j + 1, by omega, by go_num, grown_grown HG.out hgr, grown_grown HG2.out hgr, ?_⟩
              rw [HSJ.out, setD_snoc, List.length_append]
              exact hM2
            case measure => simp [intOf]; omega
        · obtain rfl : j = fl.length := by omega
          rw [HALL.out] at hM
          clear hp3 hcells3
          go_wp2
          go_roundw
          case rel => exact ⟨k + 1, by omega, by go_num, hg, hM⟩
          case measure => simp [intOf]; omega
    · obtain rfl : k = l.length := by omega
      have hp36 : (ptsTo l acts l.length).length ≤ 36 := Nat.le_trans (ptsTo_le l acts _ (Nat.le_refl _)) (Nat.mul_le_mul z1 z1)
      have hB0 : wr.cell? ⟨w.heap.size + 1 + 1, 0, none⟩ = some (.slice p0 l.length c0) := grown_cell hg HB0.out (by simp)
      have hB1 : wr.cell? ⟨w.heap.size + 1 + 1, 1, none⟩ = some (.map (some (w.heap.size + 1))) := grown_cell hg HB1.out (by simp)
      have hA0 : wr.cell? ⟨w.heap.size, 0, none⟩ = some (.slice none 0 0) := grown_cell hg HA0.out (by simp)
      have hA1 : wr.cell? ⟨w.heap.size, 1, none⟩ = some (.map none) := grown_cell hg HA1.out (by simp)
      have hf0 : wr.frozen? ⟨w.heap.size, 0, none⟩ = false := (grown_frozen hg (by have := HZ.out; omega) (by simp)).trans (HFR.out 0)
      have hf1 : wr.frozen? ⟨w.heap.size, 1, none⟩ = false := (grown_frozen hg (by have := HZ.out; omega) (by simp)).trans (HFR.out 1)
      have HP : Hid (PairsAt wr (w.heap.size + 1) (mayB l acts)) := ⟨_, _, hM, by omega, fun a b ha hb => setD_has HL.out ha hb⟩
      have HBW := Lib.hid hbw
      clear hp0 hcells0 hM hg hbw
      go_wp2
      refine bodyPost_ret (v := .agg #[.slice p0 l.length c0, .map (some (w.heap.size + 1))]) ?_ rfl ⟨w.heap.size + 1, rfl, ?_, ?_⟩
      · have q0 : (wr.setCell ⟨w.heap.size, 0, none⟩ (.slice p0 l.length c0)).cell? ⟨w.heap.size, 0, none⟩ = some (.slice p0 l.length c0) := World.cell?_setCell_same _ _ _ hA0
        have q1 : ((wr.setCell ⟨w.heap.size, 0, none⟩ (.slice p0 l.length c0)).setCell ⟨w.heap.size, 1, none⟩ (.map (some (w.heap.size + 1)))).cell? ⟨w.heap.size, 1, none⟩ = some (.map (some (w.heap.size + 1))) :=
          World.cell?_setCell_same _ _ _ ((World.cell?_setCell_other _ _ _ _ (by simp)).trans hA1)
        simp [results, Tryd.results50, go_sem, q0, q1]
      · exact (HP.out.setCell (by simp) _).setCell (by simp) _
      · exact (HBW.out.setCell (Nat.le_refl _) _).setCell (Nat.le_refl _) _
end Go.Proofs.YtfbieagkhbmgjaaDoor
