/-
  slices.CompactFunc over policies.
-/
import Derived.Test.YtcgihpfanfbonaaGreatDoorLN06
import Derived.Test.YtcgihpfanfbonaaGreatDoorLN01
import Derived.Lib.SliceRun
namespace Go.Proofs.YtcgihpfanfbonaaGreatDoor
open Go.RowKit Go.Sort
set_option linter.unusedVariables false
set_option linter.unusedSimpArgs false

set_option maxHeartbeats 1000000 in
theorem normF_calls (p x : Pol) (vp vx : Value) (w : World) (hp : Strs w p.2 vp) (hx : Strs w x.2 vx) :
    Calls Tryz.prog 65 #[.agg #[.string p.1, vp], .agg #[.string x.1, vx]] w fun e w' => e = .returned (.bool (cmpPol p x == 0)) ∧ Below w.heap.size w w' := by
  obtain ⟨b, o, c, a, rfl, _⟩ := hp.cells
  obtain ⟨b2, o2, c2, a2, rfl, _⟩ := hx.cells
  obtain ⟨W2, eW⟩ : ∃ W2, (w.alloc (.cells #[.string p.1, .slice a p.2.length c] 37)).alloc (.cells #[.string x.1, .slice a2 x.2.length c2] 37) = W2 := ⟨_, rfl⟩
  obtain ⟨z2, hW, m1, m2⟩ := boxes2 eW
  have h10 := m1 0
  have h11 := m1 1
  have h20 := m2 0
  have h21 := m2 1
  simp only [List.getElem?_toArray, List.getElem?_cons_zero, List.getElem?_cons_succ] at h10 h11 h20 h21
  have HP := Lib.hid (hp.stays (keeps_of_below hW))
  have HX := Lib.hid (hx.stays (keeps_of_below hW))
  have HW := Lib.hid hW
  clear m1 m2 hW z2 hp hx
  go_enter Tryz.func65, Tryz.ntmps65
  go_wp2_with (fail)
  refine (compare_calls p x _ _ _ HP.out HX.out).mono ?_
  rintro e w' ⟨rfl, os, hw⟩
  have HE : Hid (Below w.heap.size w w') := HW.out.trans (by
    rw [hw]
    refine ⟨rfl, rfl, rfl, by simp, fun k hk => ?_⟩
    have := HW.out.size
    rw [heap_grow_old _ _ (by omega)])
  clear hw
  go_wp2
  go_ret
  exact ⟨rfl, HE.out⟩

/-- What of the first so many is kept: those that are other policies than the one ahead of them. -/
def keptS (d : List PolS) (m : Nat) : List PolS := ((List.range m).filter fun j => decide (j = 0 ∨ (d.map Prod.fst)[j]? ≠ (d.map Prod.fst)[j - 1]?)).filterMap fun j => d[j]?
theorem keptS_fst (d : List PolS) (m : Nat) : (keptS d m).map Prod.fst = keptTo (d.map Prod.fst) m := by
  unfold keptS keptTo
  rw [List.map_filterMap]
  congr 1
  funext j
  rw [List.getElem?_map]
theorem keptS_succ (d : List PolS) (m : Nat) : keptS d (m + 1) = keptS d m ++ (if m = 0 ∨ (d.map Prod.fst)[m]? ≠ (d.map Prod.fst)[m - 1]? then d[m]?.toList else []) := by
  unfold keptS
  rw [List.range_succ, List.filter_append, List.filterMap_append]
  congr 1
  by_cases h : m = 0 ∨ (d.map Prod.fst)[m]? ≠ (d.map Prod.fst)[m - 1]?
  · rw [if_pos h, show ([m].filter fun j => decide (j = 0 ∨ (d.map Prod.fst)[j]? ≠ (d.map Prod.fst)[j - 1]?)) = [m] by simp only [List.filter_cons, List.filter_nil]; rw [if_pos (decide_eq_true h)]]
    simp only [List.filterMap_cons, List.filterMap_nil]
    cases d[m]? <;> rfl
  · rw [if_neg h, show ([m].filter fun j => decide (j = 0 ∨ (d.map Prod.fst)[j]? ≠ (d.map Prod.fst)[j - 1]?)) = [] by simp only [List.filter_cons, List.filter_nil]; rw [if_neg (by rw [decide_eq_false h]; decide)]]
    rfl
theorem keptS_hit {d : List PolS} {m : Nat} (hm : m + 1 < d.length) (h : d[m + 1].1 ≠ d[m].1) : keptS d (m + 1 + 1) = keptS d (m + 1) ++ [d[m + 1]] := by
  rw [keptS_succ, if_pos (.inr (by simp [hm, show m < d.length by omega, h])), List.getElem?_eq_getElem hm]; rfl
theorem keptS_miss {d : List PolS} {m : Nat} (hm : m + 1 < d.length) (h : d[m + 1].1 = d[m].1) : keptS d (m + 1 + 1) = keptS d (m + 1) := by
  rw [keptS_succ, if_neg (by simp [hm, show m < d.length by omega, h]), List.append_nil]
theorem keptS_all {d : List PolS} : ∀ m, m < d.length → (∀ j (h : j + 1 < d.length), j + 1 ≤ m → d[j + 1].1 ≠ d[j].1) → keptS d (m + 1) = d.take (m + 1)
  | 0, h, _ => by
    rw [keptS_succ, if_pos (.inl rfl), List.getElem?_eq_getElem h, List.take_succ_eq_append_getElem h]; rfl
  | m + 1, h, hne => by
    rw [keptS_hit h (hne m h (Nat.le_refl _)), keptS_all m (by omega) fun j hj hjm => hne j hj (by omega), List.take_succ_eq_append_getElem h]
/-- The row while it is made shorter: what was looked at, what is kept of it. -/
structure Shrink (d : List PolS) (m k : Nat) (dk : List PolS) : Prop where
  len : dk.length = d.length
  kept : (keptS d m).length = k
  lt : k < m
  low : dk.take k = keptS d m
  high : ∀ j, k ≤ j → dk[j]? = d[j]?
theorem Shrink.start {d : List PolS} {m : Nat} (hm : m + 1 < d.length) (hne : ∀ j (h : j + 1 < d.length), j + 1 ≤ m → d[j + 1].1 ≠ d[j].1) (h : d[m + 1].1 = d[m].1) : Shrink d (m + 1 + 1) (m + 1) d := by
  have h1 := keptS_all m (by omega) hne
  refine ⟨rfl, ?_, by omega, ?_, fun j _ => rfl⟩
  · rw [keptS_miss hm h, h1, List.length_take]; omega
  · rw [keptS_miss hm h, h1]
theorem Shrink.keep {d dk : List PolS} {m k : Nat} (h : Shrink d (m + 1) k dk) (hm : m + 1 < d.length) (hne : d[m + 1].1 ≠ d[m].1) : Shrink d (m + 1 + 1) (k + 1) (dk.set k d[m + 1]) := by
  have hk := h.lt
  have hl := h.len
  refine ⟨by simp [hl], ?_, by omega, ?_, fun j hj => ?_⟩
  · rw [keptS_hit hm hne, List.length_append, h.kept]; rfl
  · rw [keptS_hit hm hne, ← h.low, List.take_succ_eq_append_getElem (by simp; omega), List.take_set_of_le (by omega)]
    simp
  · rw [List.getElem?_set_ne (by omega)]
    exact h.high j (by omega)
theorem Shrink.skip {d dk : List PolS} {m k : Nat} (h : Shrink d (m + 1) k dk) (hm : m + 1 < d.length) (he : d[m + 1].1 = d[m].1) : Shrink d (m + 1 + 1) k dk := by
  have hk := h.lt
  exact ⟨h.len, by rw [keptS_miss hm he]; exact h.kept, by omega, by rw [keptS_miss hm he]; exact h.low, h.high⟩

/-- A store into a row. -/
theorem ownsRow_set {w : World} {base g n cap : Nat} {e : TypeId} {xs : List Value} (h : w.ownsRow base e 2 (.slice (some ⟨g, 0, none⟩) n cap) n xs) (t : Nat) (u : Value) (ht : t < n * 2) :
    (w.setCell ⟨g, t, none⟩ u).ownsRow base e 2 (.slice (some ⟨g, 0, none⟩) n cap) n (xs.set t u) := by
  obtain ⟨hl, h⟩ := h
  rcases h with ⟨h, _⟩ | ⟨g', cap', cur, he, hb, hh, h1, h2, h3, h4⟩
  · cases h
  · injection he with e1 e2 e3
    injection e1 with e1
    injection e1 with e1
    subst e1 e3
    have hg : g < w.heap.size := (Array.getElem?_eq_some_iff.1 hh).1
    refine ⟨by simpa using hl, .inr ⟨g, cap, cur.setIfInBounds t u, rfl, hb, ?_, h1, h2, by simp [h3], ?_⟩⟩
    · show (w.heap.modify g _)[g]? = _
      have h' : w.heap[g] = .cells cur e (0, 0) := by simpa [Array.getElem?_eq_getElem hg] using hh
      rw [Array.getElem?_eq_getElem (by simpa using hg), Array.getElem_modify_self, h']
      rfl
    · rw [← h4, Array.toList_setIfInBounds, List.take_set]
theorem pcells_set : ∀ (d : List PolS) (k : Nat) (x : PolS), k < d.length → ((d.flatMap pcells).set (k * 2) (.string x.1.1)).set (k * 2 + 1) x.2 = (d.set k x).flatMap pcells
  | [], k, x, h => absurd h (by simp)
  | y :: d, 0, x, _ => rfl
  | y :: d, k + 1, x, h => by
    have ih := pcells_set d k x (by simpa using h)
    rw [List.flatMap_cons, List.set_cons_succ, List.flatMap_cons, ← ih, show (k + 1) * 2 = k * 2 + 2 by omega]
    rfl
/-- The cells of a row. -/
theorem row_cells {w : World} {base g n cap : Nat} {e : TypeId} {d : List PolS} (h : w.ownsRow base e 2 (.slice (some ⟨g, 0, none⟩) n cap) n (d.flatMap pcells)) (hn : n = d.length) {k : Nat} (hk : k < d.length) :
    w.cell? ⟨g, k * 2, none⟩ = some (.string d[k].1.1) ∧ w.cell? ⟨g, k * 2 + 1, none⟩ = some d[k].2 ∧ ∀ j, w.frozen? ⟨g, j, none⟩ = false := by
  obtain ⟨hl, h⟩ := h
  rcases h with ⟨h, _⟩ | ⟨g', cap', cur, he, hb, hh, h1, h2, h3, h4⟩
  · cases h
  · injection he with e1 e2 e3
    injection e1 with e1
    injection e1 with e1
    subst e1 e3
    have c0 := pcells_at d k 0 hk (by omega)
    have c1 := pcells_at d k 1 hk (by omega)
    rw [← h4, List.getElem?_take_of_lt (by omega), Array.getElem?_toList] at c0 c1
    exact ⟨by simpa [World.cell?, hh, pcells] using c0, by simpa [World.cell?, hh, pcells] using c1, fun j => by simp [World.frozen?, hh]⟩
theorem PolRow.other {base : Nat} {w w' : World} {v : Value} {d : List PolS} (h : PolRow base w v d) (hb : Below w.heap.size w w') : PolRow base w' v d :=
  ⟨own_below h.1 hb, fun x hx => (h.2 x hx).grown ⟨hb.os, hb.tape, hb.output, hb.size, fun k hk _ => hb.block k hk⟩⟩
theorem PolRow.put {base : Nat} {w : World} {g n cap : Nat} {d : List PolS} (h : PolRow base w (.slice (some ⟨g, 0, none⟩) n cap) d) (hn : n = d.length) {k : Nat} (hk : k < d.length) {x : PolS} (hx : Rob w (some g) x) :
    PolRow base ((w.setCell ⟨g, k * 2, none⟩ (.string x.1.1)).setCell ⟨g, k * 2 + 1, none⟩ x.2) (.slice (some ⟨g, 0, none⟩) n cap) (d.set k x) := by
  subst hn
  have hg : w.grownBy ((w.setCell ⟨g, k * 2, none⟩ (.string x.1.1)).setCell ⟨g, k * 2 + 1, none⟩ x.2) (some g) :=
    grown_grown (grown_setCell w ⟨g, k * 2, none⟩ _) (grown_setCell _ ⟨g, k * 2 + 1, none⟩ _)
  refine ⟨?_, fun y hy => ?_⟩
  · have h1 := ownsRow_set (ownsRow_set h.1 (k * 2) (.string x.1.1) (by omega)) (k * 2 + 1) x.2 (by omega)
    rw [pcells_set d k x hk] at h1
    rw [List.length_set]
    exact h1
  · rcases List.mem_or_eq_of_mem_set hy with hy | rfl
    · exact (h.2 y hy).grown hg
    · exact hx.grown hg
/-- A row's beginning, read as a label. -/
theorem PolRow.label {base : Nat} {w : World} {g n cap : Nat} {d : List PolS} (h : PolRow base w (.slice (some ⟨g, 0, none⟩) n cap) d) (hn : n = d.length) (hcap : n ≤ cap) (hc : cap ≤ maxLen) (k : Nat) (hk : k ≤ d.length) {w' : World} (hg : w.grownBy w' (some g))
    (hlow : ∀ j, j < k * 2 → w'.cell? ⟨g, j, none⟩ = w.cell? ⟨g, j, none⟩) : Lbl w' ((d.take k).map Prod.fst) (.slice (some ⟨g, 0, none⟩) k cap) := by
  subst hn
  have hlen : ((d.take k).map Prod.fst).length = k := by simp; omega
  refine ⟨_, _, by rw [hlen], by omega, hc, .inr ⟨g, 0, rfl, fun i hi => ?_⟩⟩
  have hi' : i < k := by omega
  have hi2 : i < d.length := by omega
  obtain ⟨c0, c1, _⟩ := row_cells h.1 rfl hi2
  have hs : Strs w' d[i].1.2 d[i].2 := h.2 _ (List.getElem_mem hi2) w' hg
  refine ⟨[.string d[i].1.1, d[i].2], ⟨[.string d[i].1.1], [d[i].2], rfl, ?_, ⟨_, rfl, ?_⟩⟩, rfl, fun j x hx => ?_⟩
  · show _ = _; simp
  · simpa using hs
  · match j, hx with
    | 0, hx =>
      simp at hx; subst hx
      rw [hlow _ (by omega)]
      simpa using c0
    | 1, hx =>
      simp at hx; subst hx
      rw [hlow _ (by omega)]
      simpa using c1

theorem wp_region_class2 {P : Program} {id : Nat} {Q : Exit → Act → World → Prop} {a : Act} {w : World} {l : List Oper} (C : World → Prop) (hm : P.follows .mixedOrders = true) (hB : Region.lexB .any l.toArray = true) (hC : C w.drew)
    (h : wpQuiet P l.toArray C (fun a' => ∀ w', C w' → Q .normal a' w') l a) : (Code.region id l.toArray true).wp P Q a w :=
  wp_region_quiet (C := C) hm hB hC (by simpa using h)
/-- 'clear' of a run of elements of some cells. -/
theorem setCells_grown (b : Nat) : ∀ (vs : List Value) (o : Nat) (w : World), w.grownBy (w.setCells b o vs) (some b) ∧ ∀ j, j < o → (w.setCells b o vs).cell? ⟨b, j, none⟩ = w.cell? ⟨b, j, none⟩
  | [], o, w => ⟨World.grownBy.refl w _, fun _ _ => rfl⟩
  | u :: vs, o, w => by
    obtain ⟨h1, h2⟩ := setCells_grown b vs (o + 1) (w.setCell ⟨b, o, none⟩ u)
    refine ⟨grown_grown (grown_setCell w ⟨b, o, none⟩ u) h1, fun j hj => ?_⟩
    show ((w.setCell ⟨b, o, none⟩ u).setCells b (o + 1) vs).cell? _ = _
    rw [h2 j (by omega)]
    exact World.cell?_setCell_other _ _ _ _ (by simp)
theorem clear_run {P : Program} (w : World) (t e : TypeId) (z : Value) (ht : P.underlying t = some (.slice e)) (hv : ∀ w, (zeroValue e).run P w = .ok z w) (hz : z.cells = #[.string ByteArray.empty, .slice none 0 0]) (b o n c : Nat)
    (hc : ∀ j, j < n * 2 → (w.cell? ⟨b, o + j, none⟩).isSome = true) (hf : ∀ j, w.frozen? ⟨b, j, none⟩ = false) :
    ∃ W, (∀ ty, (Builtin.clear_ #[t] ty #[.slice (some ⟨b, o, none⟩) n c]).run P w = .ok (.tuple #[]) W) ∧ w.grownBy W (some b) ∧ ∀ j, j < o → W.cell? ⟨b, j, none⟩ = w.cell? ⟨b, j, none⟩ := by
  by_cases hn : n = 0
  · subst hn
    exact ⟨w, fun ty => by simp [Builtin.clear_, run_underlying ht], World.grownBy.refl w _, fun _ _ => rfl⟩
  · have hlen : (Builtin.zeroCells z.cells n).toList.length = n * 2 := by
      rw [hz]; simp [Builtin.zeroCells]
    have hone : ∀ v ∈ (Builtin.zeroCells z.cells n).toList, v.oneCell' = true := by
      rw [hz]
      intro v hv'
      simp [Builtin.zeroCells] at hv'
      obtain ⟨i, _, rfl⟩ := hv'
      have : i % 2 = 0 ∨ i % 2 = 1 := by omega
      rcases this with h | h <;> (simp [h]; rfl)
    have hst := run_storeCells_cells (P := P) b o (Builtin.zeroCells z.cells n).toList 0 w (by rw [hlen]; simpa using hc) (by intro j hj; exact hf _) hone
    simp only [Nat.add_zero] at hst
    obtain ⟨m, rfl⟩ : ∃ m, n = m + 1 := ⟨n - 1, by omega⟩
    obtain ⟨h1, h2⟩ := setCells_grown b (Builtin.zeroCells z.cells (m + 1)).toList o w
    refine ⟨_, fun ty => ?_, h1, h2⟩
    simp [Builtin.clear_, run_underlying ht, hv, hst]
theorem polZero (w : World) : (zeroValue 37).run Tryz.prog w = .ok (.agg #[.string ByteArray.empty, .slice none 0 0]) w := Tryz.zeroValue37 w

set_option maxHeartbeats 4000000 in
set_option maxRecDepth 100000 in
theorem compactPol_calls (base : Nat) (v : Value) (d : List PolS) (w : World) (h : PolRow base w v d) (h0 : 0 < d.length) (hsz : d.length ≤ 1048576) :
    Calls Tryz.prog 64 #[v, .func (.func 65) #[] #[]] w fun e w' => ∃ v', e = .returned v' ∧
      Lbl w' (dedup (d.map Prod.fst)) v' ∧ w.grownBy w' v.ownBlock := by
  have hown := h.1.2
  rcases hown with ⟨rfl, hn⟩ | ⟨g, cap, cur, rfl, hbase, hblk, q1, q2, q3, q4⟩
  · omega
  have hg : g < w.heap.size := (Array.getElem?_eq_some_iff.1 hblk).1
  have hmx := q2
  unfold maxLen at hmx
  have HQ2 := Lib.hid q2
  have HH := Lib.hid h
  have eg : ∀ args w, (callFunc 65 args).run Tryz.prog w = .ok (.enter 65 args) w := enters_at Tryz.func65 (by kernel_rfl) rfl
  have HFIN : Hid (keptTo (d.map Prod.fst) d.length = dedup (d.map Prod.fst)) := by
    have := keptTo_all (d.map Prod.fst)
    rw [List.length_map] at this
    exact this
  have HGB : Hid (∀ W, Below w.heap.size w W → w.grownBy W (some g)) := fun W hb => ⟨hb.os, hb.tape, hb.output, hb.size, fun k hk _ => hb.block k hk⟩
  have HG := Lib.hid hg
  clear h hblk q3 q4 hg q2
  by_cases h1 : d.length < 2
  · have HE : Hid (dedup (d.map Prod.fst) = (d.take d.length).map Prod.fst) := by
      unfold Hid
      rw [List.take_length]
      match d, h0, h1 with
      | [x], _, _ => rfl
    have h1' : (d.length : Int) < 2 := by omega
    clear h1
    go_enter Tryz.func64, Tryz.ntmps64
    go_wp2
    go_ret
    refine ⟨_, rfl, ?_, World.grownBy.refl _ _⟩
    rw [HE.out]
    exact HH.out.label rfl q1 HQ2.out d.length (Nat.le_refl _) (World.grownBy.refl _ _) fun _ _ => rfl
  · have h1' : ¬ (d.length : Int) < 2 := by omega
    go_enter Tryz.func64, Tryz.ntmps64
    go_wp2
    go_loopw [5] (fun k wr => ∃ m : Nat, m < d.length ∧ k = .int .i64 ((m : Int) + 1) ∧ Below w.heap.size w wr ∧ Hid (∀ j (hj : j + 1 < d.length), j + 1 ≤ m → d[j + 1].1 ≠ d[j].1)) (fun k _ => d.length - (intOf k).toNat)
    case atStart => exact ⟨0, h0, rfl, Below.refl _ _, fun j hj h => absurd h (by omega)⟩
    case round =>
      obtain ⟨m, hm, rfl, hbr, HN⟩ := hrel
      have HBR := Lib.hid hbr
      clear hbr
      have HRR := Lib.hid (HH.out.other HBR.out)
      by_cases hlt : m + 1 < d.length
      · obtain ⟨c0, c1, _⟩ := row_cells HRR.out.1 rfl hlt
        obtain ⟨c2, c3, _⟩ := row_cells HRR.out.1 rfl hm
        have hrb1 : Rob wr (some g) d[m + 1] := HRR.out.2 _ (List.getElem_mem hlt)
        have hrb0 : Rob wr (some g) d[m] := HRR.out.2 _ (List.getElem_mem hm)
        have hlt' : (m : Int) + 1 < (d.length : Int) := by omega
        obtain ⟨ext, hx1, hx2⟩ := exists_ext wr
        have HJ : Hid (∀ y, Calls Tryz.prog 65 #[.agg #[.string d[m + 1].1.1, d[m + 1].2], .agg #[.string d[m].1.1, d[m].2]] (ext y) fun e w'' => e = .returned (.bool (cmpPol d[m + 1].1 d[m].1 == 0)) ∧ ∃ z, w'' = ext z) := fun y =>
          (normF_calls d[m + 1].1 d[m].1 _ _ (ext y) ((hrb1.strs).stays (keeps_of_below (hx1 y))) ((hrb0.strs).stays (keeps_of_below (hx1 y)))).mono fun e w'' ⟨h1, h2⟩ => ⟨h1, w'', hx2 _ ((hx1 y).trans (h2.mono (hx1 y).size))⟩
        have HSS : Hid (Shrink d (m + 1 + 1) (m + 1) d ∨ d[m + 1].1 ≠ d[m].1) := by
          by_cases e : d[m + 1].1 = d[m].1
          · exact .inl (Shrink.start hlt HN.out e)
          · exact .inr e
        have HEQ : Hid ((cmpPol d[m + 1].1 d[m].1 == 0) = decide (d[m + 1].1 = d[m].1)) := by
          unfold Hid
          rw [Bool.eq_iff_iff]
          simp [cmpPol_tot.zero]
        obtain ⟨p1, k1, e1, _⟩ := hrb1.strs
        obtain ⟨p0, k0, e0, _⟩ := hrb0.strs
        rw [e1] at c1 HJ
        rw [e0] at c3 HJ
        have t1 : ∀ y, (ext y).cell? ⟨g, (m + 1) * 2, none⟩ = some (.string d[m + 1].1.1) := fun y => ((hx1 y).cell (cell_lt c0)).trans c0
        have t2 : ∀ y, (ext y).cell? ⟨g, (m + 1) * 2 + 1, none⟩ = some (.slice p1 d[m + 1].1.2.length k1) := fun y => ((hx1 y).cell (cell_lt c1)).trans c1
        have t3 : ∀ y, (ext y).cell? ⟨g, m * 2, none⟩ = some (.string d[m].1.1) := fun y => ((hx1 y).cell (cell_lt c2)).trans c2
        have t4 : ∀ y, (ext y).cell? ⟨g, m * 2 + 1, none⟩ = some (.slice p0 d[m].1.2.length k0) := fun y => ((hx1 y).cell (cell_lt c3)).trans c3
        have HBX : Hid (∀ y, Below w.heap.size w (ext y)) := fun y => HBR.out.trans ((hx1 y).mono HBR.out.size)
        have HD := Lib.hid (hx2 _ (Below.refl wr.heap.size wr).drew)
        clear hx1 hx2 hrb1 hrb0 e1 e0 c0 c1 c2 c3
        cases hq : decide (d[m + 1].1 = d[m].1) with
        | false =>
          have hne : d[m + 1].1 ≠ d[m].1 := by simpa using hq
          have HNX : Hid (∀ j (hj : j + 1 < d.length), j + 1 ≤ m + 1 → d[j + 1].1 ≠ d[j].1) := fun j hj hjm => by
            by_cases e : j = m
            · subst e; exact hne
            · exact HN.out j hj (by omega)
          rw [HEQ.out, hq] at HJ
          clear hq hne
          go_wp2
          refine wp_region_class2 (fun w' => ∃ y, w' = ext y) (by kernel_rfl) (by kernel_rfl) ⟨_, HD.out⟩ ?_
          repeat go_big_quiet_step ((go_at_call 65; exact HJ.out _))
          refine wpQuiet_nil ?_
          rintro w' ⟨y, rfl⟩
          clear t1 t2 t3 t4
          go_wp2
          go_roundw
          case rel => exact ⟨m + 1, hlt, by go_num, HBX.out _, HNX⟩
          case measure => simp [intOf]; omega
        | true =>
          have heq : d[m + 1].1 = d[m].1 := by simpa using hq
          have HS : Hid (Shrink d (m + 1 + 1) (m + 1) d) := by
            rcases HSS.out with h | h
            · exact h
            · exact absurd heq h
          rw [HEQ.out, hq] at HJ
          clear hq heq HSS
          go_wp2
          refine wp_region_class2 (fun w' => ∃ y, w' = ext y) (by kernel_rfl) (by kernel_rfl) ⟨_, HD.out⟩ ?_
          repeat go_big_quiet_step ((go_at_call 65; exact HJ.out _))
          refine wpQuiet_nil ?_
          rintro w' ⟨y, rfl⟩
          clear t1 t2 t3 t4 HJ
          have HR1 : Hid (PolRow base (ext y) (.slice (some ⟨g, 0, none⟩) d.length cap) d) := HH.out.other (HBX.out y)
          have HG1 : Hid (w.grownBy (ext y) (some g)) := HGB.out _ (HBX.out y)
          generalize ext y = w5 at *
          clear HD HBX HRR HBR
          go_wp2
          go_loopw [5, 7] (fun k k2 ws => ∃ (q kk : Nat) (dk : List PolS), k2 = .int .i64 ((q : Int) + 1) ∧ k = .int .i64 (kk : Int) ∧ m + 1 + q < d.length ∧ Hid (Shrink d (m + 1 + q + 1) kk dk) ∧ Hid (PolRow base ws (.slice (some ⟨g, 0, none⟩) d.length cap) dk) ∧ Hid (w.grownBy ws (some g)))
            (fun _ k2 _ => d.length - (intOf k2).toNat)
          case atStart => exact ⟨0, m + 1, d, rfl, by go_num, by omega, HS, HR1, HG1⟩
          case round =>
            obtain ⟨q, kk, dk, rfl, rfl, hq, HSH, HRW, HGR⟩ := hrel
            have hkk := HSH.out.lt
            have hlen := HSH.out.len
            have hrow : wr.ownsRow base 37 2 (.slice (some ⟨g, 0, none⟩) d.length cap) d.length (dk.flatMap pcells) := by have := HRW.out.1; rwa [hlen] at this
            by_cases hl2 : m + 1 + q + 1 < d.length
            · have e1 : dk[m + 1 + q + 1]? = d[m + 1 + q + 1]? := HSH.out.high _ (by omega)
              have e0 : dk[m + 1 + q]? = d[m + 1 + q]? := HSH.out.high _ (by omega)
              rw [List.getElem?_eq_getElem hl2, List.getElem?_eq_getElem (by omega)] at e1
              rw [List.getElem?_eq_getElem hq, List.getElem?_eq_getElem (by omega)] at e0
              have e1' := Option.some.inj e1
              have e0' := Option.some.inj e0
              obtain ⟨c0, c1, hfz⟩ := row_cells hrow hlen.symm (show m + 1 + q + 1 < dk.length by omega)
              obtain ⟨c2, c3, _⟩ := row_cells hrow hlen.symm (show m + 1 + q < dk.length by omega)
              obtain ⟨c4, c5, _⟩ := row_cells hrow hlen.symm (show kk < dk.length by omega)
              have hrb1 : Rob wr (some g) d[m + 1 + q + 1] := by rw [← e1']; exact HRW.out.2 _ (List.getElem_mem _)
              have hrb0 : Rob wr (some g) d[m + 1 + q] := by rw [← e0']; exact HRW.out.2 _ (List.getElem_mem _)
              rw [e1'] at c0 c1
              rw [e0'] at c2 c3
              have HRB1 := Lib.hid hrb1
              have HLN := Lib.hid hlen
              have HFZ := Lib.hid hfz
              rw [show (m + 1 + q + 1) * 2 = (m + 1) * 2 + (q + 1) * 2 by omega] at c0 c1
              rw [show (m + 1 + q) * 2 = (m + 1) * 2 + q * 2 by omega] at c2 c3
              obtain ⟨ext, hx1, hx2⟩ := exists_ext wr
              have HJ : Hid (∀ y, Calls Tryz.prog 65 #[.agg #[.string d[m + 1 + q + 1].1.1, d[m + 1 + q + 1].2], .agg #[.string d[m + 1 + q].1.1, d[m + 1 + q].2]] (ext y) fun e w'' => e = .returned (.bool (cmpPol d[m + 1 + q + 1].1 d[m + 1 + q].1 == 0)) ∧ ∃ z, w'' = ext z) := fun y =>
                (normF_calls d[m + 1 + q + 1].1 d[m + 1 + q].1 _ _ (ext y) ((hrb1.strs).stays (keeps_of_below (hx1 y))) ((hrb0.strs).stays (keeps_of_below (hx1 y)))).mono fun e w'' ⟨h1, h2⟩ => ⟨h1, w'', hx2 _ ((hx1 y).trans (h2.mono (hx1 y).size))⟩
              have HEQ : Hid ((cmpPol d[m + 1 + q + 1].1 d[m + 1 + q].1 == 0) = decide (d[m + 1 + q + 1].1 = d[m + 1 + q].1)) := by
                unfold Hid
                rw [Bool.eq_iff_iff]
                simp [cmpPol_tot.zero]
              have HKEEP : Hid (d[m + 1 + q + 1].1 ≠ d[m + 1 + q].1 → Shrink d (m + 1 + (q + 1) + 1) (kk + 1) (dk.set kk d[m + 1 + q + 1])) := fun hne => HSH.out.keep hl2 hne
              have HSKIP : Hid (d[m + 1 + q + 1].1 = d[m + 1 + q].1 → Shrink d (m + 1 + (q + 1) + 1) kk dk) := fun he => HSH.out.skip hl2 he
              obtain ⟨p1, k1, f1, _⟩ := hrb1.strs
              obtain ⟨p0, k0, f0, _⟩ := hrb0.strs
              have HE1 := Lib.hid f1
              rw [f1] at c1 HJ
              rw [f0] at c3 HJ
              generalize dk[kk].1.1 = o4 at c4
              generalize dk[kk].2 = o5 at c5
              have t1 : ∀ y, (ext y).cell? ⟨g, (m + 1) * 2 + (q + 1) * 2, none⟩ = some (.string d[m + 1 + q + 1].1.1) := fun y => ((hx1 y).cell (cell_lt c0)).trans c0
              have t2 : ∀ y, (ext y).cell? ⟨g, (m + 1) * 2 + (q + 1) * 2 + 1, none⟩ = some (.slice p1 d[m + 1 + q + 1].1.2.length k1) := fun y => ((hx1 y).cell (cell_lt c1)).trans c1
              have t3 : ∀ y, (ext y).cell? ⟨g, (m + 1) * 2 + q * 2, none⟩ = some (.string d[m + 1 + q].1.1) := fun y => ((hx1 y).cell (cell_lt c2)).trans c2
              have t4 : ∀ y, (ext y).cell? ⟨g, (m + 1) * 2 + q * 2 + 1, none⟩ = some (.slice p0 d[m + 1 + q].1.2.length k0) := fun y => ((hx1 y).cell (cell_lt c3)).trans c3
              have t5 : ∀ y, (ext y).cell? ⟨g, kk * 2, none⟩ = some (.string o4) := fun y => ((hx1 y).cell (cell_lt c4)).trans c4
              have t6 : ∀ y, (ext y).cell? ⟨g, kk * 2 + 1, none⟩ = some o5 := fun y => ((hx1 y).cell (cell_lt c5)).trans c5
              have t7 : ∀ y j, (ext y).frozen? ⟨g, j, none⟩ = false := fun y j => ((hx1 y).frozen (p := ⟨g, j, none⟩) (cell_lt c4)).trans (HFZ.out j)
              have HRX : Hid (∀ y, PolRow base (ext y) (.slice (some ⟨g, 0, none⟩) d.length cap) dk ∧ w.grownBy (ext y) (some g)) := fun y =>
                ⟨HRW.out.other (hx1 y), grown_below HGR.out (hx1 y)⟩
              have HRB2 : Hid (∀ y, Rob (ext y) (some g) d[m + 1 + q + 1]) := fun y => HRB1.out.grown ⟨(hx1 y).os, (hx1 y).tape, (hx1 y).output, (hx1 y).size, fun k hk _ => (hx1 y).block k hk⟩
              have HD := Lib.hid (hx2 _ (Below.refl wr.heap.size wr).drew)
              have hkd : kk < d.length := by omega
              have hcond : (q : Int) + 1 < ((d.length - (m + 1) : Nat) : Int) := by omega
              clear hx1 hx2 hrb1 hrb0 f1 f0 e1 e0 c0 c1 c2 c3 c4 c5 hfz e0' e1' hlen hrow
              cases hq : decide (d[m + 1 + q + 1].1 = d[m + 1 + q].1) with
              | true =>
                have HSN := Lib.hid (HSKIP.out (by simpa using hq))
                rw [HEQ.out, hq] at HJ
                clear hq
                go_wp2
                refine wp_region_class2 (fun w' => ∃ y, w' = ext y) (by kernel_rfl) (by kernel_rfl) ⟨_, HD.out⟩ ?_
                repeat go_big_quiet_step ((go_at_call 65; exact HJ.out _))
                refine wpQuiet_nil ?_
                rintro w' ⟨y, rfl⟩
                clear t1 t2 t3 t4 t5 t6 t7
                go_wp2
                go_roundw
                case rel => exact ⟨q + 1, kk, dk, by go_num, rfl, by omega, HSN, (HRX.out y).1, (HRX.out y).2⟩
                case measure => simp [intOf]; omega
              | false =>
                have HSN := Lib.hid (HKEEP.out (by simpa using hq))
                rw [HEQ.out, hq] at HJ
                clear hq
                go_wp2
                refine wp_region_class2 (fun w' => ∃ y, w' = ext y) (by kernel_rfl) (by kernel_rfl) ⟨_, HD.out⟩ ?_
                repeat go_big_quiet_step ((go_at_call 65; exact HJ.out _))
                refine wpQuiet_nil ?_
                rintro w' ⟨y, rfl⟩
                have s1 := t1 y
                have s2 := t2 y
                have s5 := t5 y
                have s6 := t6 y
                have s7 := t7 y (kk * 2)
                have s8 := t7 y (kk * 2 + 1)
                have HRP : Hid (PolRow base (((ext y).setCell ⟨g, kk * 2, none⟩ (.string d[m + 1 + q + 1].1.1)).setCell ⟨g, kk * 2 + 1, none⟩ (.slice p1 d[m + 1 + q + 1].1.2.length k1)) (.slice (some ⟨g, 0, none⟩) d.length cap) (dk.set kk d[m + 1 + q + 1])) := by
                  have := (HRX.out y).1.put HLN.out.symm (show kk < dk.length by rw [HLN.out]; exact hkd) (HRB2.out y)
                  rwa [HE1.out] at this
                have HGP : Hid (w.grownBy (((ext y).setCell ⟨g, kk * 2, none⟩ (.string d[m + 1 + q + 1].1.1)).setCell ⟨g, kk * 2 + 1, none⟩ (.slice p1 d[m + 1 + q + 1].1.2.length k1)) (some g)) :=
                  grown_grown (HRX.out y).2 (grown_grown (grown_setCell _ ⟨g, kk * 2, none⟩ _) (grown_setCell _ ⟨g, kk * 2 + 1, none⟩ _))
                clear t1 t2 t3 t4 t5 t6 t7
                go_wp2
                go_roundw
                case rel => exact ⟨q + 1, kk + 1, dk.set kk d[m + 1 + q + 1], by go_num, by go_num, by omega, HSN, HRP, HGP⟩
                case measure => simp [intOf]; omega
            · obtain hend : m + 1 + q + 1 = d.length := by omega
              rw [hend] at HSH
              have hks := HSH.out.kept
              have hres : (dk.take kk).map Prod.fst = dedup (d.map Prod.fst) := by rw [HSH.out.low, keptS_fst, HFIN.out]
              have hkd : kk < d.length := by omega
              have hcond : ¬ (q : Int) + 1 < ((d.length - (m + 1) : Nat) : Int) := by omega
              have hcl0 : ∀ j, j < (d.length - kk) * 2 → (wr.cell? ⟨g, kk * 2 + j, none⟩).isSome = true := fun j hj => by
                obtain ⟨c0, c1, _⟩ := row_cells hrow hlen.symm (show kk + j / 2 < dk.length by omega)
                have : j % 2 = 0 ∨ j % 2 = 1 := by omega
                rcases this with h | h
                · rw [show kk * 2 + j = (kk + j / 2) * 2 by omega, c0]; rfl
                · rw [show kk * 2 + j = (kk + j / 2) * 2 + 1 by omega, c1]; rfl
              have hfz := (row_cells hrow hlen.symm (show kk < dk.length by omega)).2.2
              obtain ⟨W, hcl, hgw, hlow⟩ := clear_run (P := Tryz.prog) wr 25 37 (.agg #[.string ByteArray.empty, .slice none 0 0]) Tryz.underlying25 polZero rfl g (kk * 2) (d.length - kk) (cap - kk) hcl0 hfz
              have HLB : Hid (Lbl W (dedup (d.map Prod.fst)) (.slice (some ⟨g, 0, none⟩) kk cap)) := by
                rw [← hres]
                exact HRW.out.label hlen.symm (by omega) HQ2.out kk (by omega) hgw hlow
              have HGW := Lib.hid (grown_grown HGR.out hgw)
              clear hks hres hcl0 hfz hgw hlow hend hlen hrow HSH HRW HGR
              go_wp2
              go_ret
              exact ⟨_, rfl, HLB.out, HGW.out⟩
      · obtain hend : m + 1 = d.length := by omega
        have HLB : Hid (Lbl wr (dedup (d.map Prod.fst)) (.slice (some ⟨g, 0, none⟩) d.length cap)) := by
          have hk := keptS_all m hm HN.out
          have h2 := keptS_fst d (m + 1)
          rw [hk, hend, HFIN.out] at h2
          rw [← h2]
          exact HRR.out.label rfl q1 HQ2.out d.length (Nat.le_refl _) (World.grownBy.refl _ _) fun _ _ => rfl
        have hcond : ¬ (m : Int) + 1 < (d.length : Int) := by omega
        have HGW := Lib.hid (HGB.out _ HBR.out)
        clear hend hlt
        go_wp2
        go_ret
        exact ⟨_, rfl, HLB.out, HGW.out⟩
end Go.Proofs.YtcgihpfanfbonaaGreatDoor
