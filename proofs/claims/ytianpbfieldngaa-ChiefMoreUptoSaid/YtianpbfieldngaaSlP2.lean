/-
  slices.Clone and Delete over pairs of texts.
-/
import Derived.Test.YtianpbfieldngaaSlP
import Derived.Test.YtianpbfieldngaaLeast
import Derived.Lib.SliceRun
import Derived.Laws.OwnMore
import Derived.Lib.AppendZeros
namespace Go.Proofs.Ytianpbfieldngaa
open Go.RowKit
set_option linter.unusedVariables false
set_option linter.unusedSimpArgs false

theorem pairs_at : ∀ (l : List (Txt × Txt)) (i : Nat) (h : i < l.length), (l.flatMap pairCells)[i * 2]? = some (.string l[i].1) ∧ (l.flatMap pairCells)[i * 2 + 1]? = some (.string l[i].2)
  | [], i, h => absurd h (by simp)
  | x :: l, 0, _ => by simp [pairCells]
  | x :: l, i + 1, h => by
    have := pairs_at l i (by simpa using h)
    have e1 : (i + 1) * 2 = i * 2 + 1 + 1 := by omega
    have e2 : (i + 1) * 2 + 1 = i * 2 + 1 + 1 + 1 := by omega
    rw [e2, e1]
    simpa [pairCells] using this
theorem pairs_length (l : List (Txt × Txt)) : (l.flatMap pairCells).length = l.length * 2 := by
  induction l with
  | nil => rfl
  | cons x l ih => simp [pairCells, ih]; omega
/-- The cells of a slice of pairs, one behind the other. -/
theorem Prs.flat {w : World} {l : List (Txt × Txt)} {v : Value} (h : Prs w l v) : ∃ b o c p, v = .slice p l.length c ∧ l.length ≤ c ∧ c ≤ 9223372036854775807 ∧ (0 < l.length → p = some ⟨b, o, none⟩) ∧
    ∀ (j : Nat) (u : Value), (l.flatMap pairCells)[j]? = some u → w.cell? ⟨b, o + j, none⟩ = some u := by
  obtain ⟨b, o, c, p, h1, h2, h3, h4, h5⟩ := h.cells
  refine ⟨b, o, c, p, h1, h2, h3, h4, fun j u hu => ?_⟩
  have hj : j < l.length * 2 := by rw [← pairs_length]; exact (List.getElem?_eq_some_iff.1 hu).1
  have hi : j / 2 < l.length := by omega
  obtain ⟨g1, g2⟩ := h5 (j / 2) hi
  obtain ⟨k1, k2⟩ := pairs_at l (j / 2) hi
  rcases Nat.mod_two_eq_zero_or_one j with e | e
  · have ej : j / 2 * 2 = j := by omega
    rw [ej] at g1 k1
    rw [k1] at hu
    cases hu
    exact g1
  · have ej : j / 2 * 2 + 1 = j := by omega
    rw [ej] at k2
    have ej' : o + j / 2 * 2 + 1 = o + j := by omega
    rw [ej'] at g2
    rw [k2] at hu
    cases hu
    exact g2
theorem pairs_one (l : List (Txt × Txt)) : ∀ u ∈ l.flatMap pairCells, u.oneCell' = true := by
  intro u hu
  rw [List.mem_flatMap] at hu
  obtain ⟨x, _, hx⟩ := hu
  simp [pairCells] at hx
  rcases hx with rfl | rfl <;> rfl

set_option maxHeartbeats 400000 in
theorem cloneP_calls (l : List (Txt × Txt)) (v : Value) (w : World) (hv : Prs w l v) (h0 : 0 < l.length) (hm : l.length ≤ 1048576) :
    Calls Try.prog 14 #[v] w fun e w' => ∃ g cap, e = .returned (.slice (some ⟨g, 0, none⟩) l.length cap) ∧ w'.ownsRow w.heap.size 38 2 (.slice (some ⟨g, 0, none⟩) l.length cap) l.length (l.flatMap pairCells) ∧ Below w.heap.size w w' := by
  obtain ⟨b, o, c, p, rfl, hlc, hcm, hp, hcells⟩ := hv.flat
  obtain rfl := hp h0
  obtain ⟨t0, hi, hz0, hz1, hz2⟩ := info_parts Try.info_pair
  have HC := Lib.hid hcells
  clear hv hcells hp
  have kn := fun w => Lib.run_eql_slice_nil (P := Try.prog) w 28 38 (some ⟨b, o, none⟩) l.length c 0 0 Try.underlying28
  go_enter Try.func14, Try.ntmps14
  go_wp2_with (at_builtin; refine wpList_append_own _ rfl _ _ 28 rfl w.heap.size 38 t0 (.agg #[.string ByteArray.empty, .string ByteArray.empty]) 2 32 Try.underlying28 hi hz0 hz1 hz2 rfl (by decide) _ _ _ rfl (World.ownsRow_lit _ _ 0 (Nat.le_refl _) (by decide) rfl) ⟨b, o, none⟩ l.length c (l.flatMap pairCells) rfl (pairs_length l) ?c1 ?c2 ?c3 ?c4 ?c5 ?_)
  case c1 =>
    intro j u hu
    rw [Go.WideShapes.add_plain]
    exact Lib.cell?_alloc_some _ (HC.out j u hu)
  case c2 => exact pairs_one l
  case c3 => unfold maxLen; omega
  case c4 => omega
  case c5 => simp
  · intro v' w5 hown' hgrow _
    go_wp2
    go_ret
    have hlt := hown'.lt
    rcases hown'.2 with ⟨_, h⟩ | ⟨g, cap, cur, rfl, _⟩
    · omega
    · exact ⟨g, cap, rfl, hown', ((Below.refl _ _).alloc (Nat.le_refl _) _).grown hgrow (by simp) (fun q hq => by simp [Value.ownBlock] at hq; omega)⟩

theorem below_setCells {B : Nat} {a : World} {b : Nat} (hB : B ≤ b) : ∀ (vs : List Value) (o : Nat) (w : World), Below B a w → Below B a (w.setCells b o vs)
  | [], _, _, h => h
  | v :: r, o, w, h => below_setCells hB r (o + 1) _ (h.setCell hB v)
theorem run_clear_pair (w : World) (g o c : Nat) (h0 : (w.cell? ⟨g, o, none⟩).isSome = true) (h1 : (w.cell? ⟨g, o + 1, none⟩).isSome = true) (f0 : w.frozen? ⟨g, o, none⟩ = false) (f1 : w.frozen? ⟨g, o + 1, none⟩ = false) (ty : TypeId) :
    (Builtin.clear_ #[28] ty #[.slice (some ⟨g, o, none⟩) 1 c]).run Try.prog w = .ok (.tuple #[]) (w.setCells g o [.string ByteArray.empty, .string ByteArray.empty]) := by
  obtain ⟨t0, hi, hz0, hz1, hz2⟩ := info_parts Try.info_pair
  have hst := run_storeCells_cells (P := Try.prog) g o [.string ByteArray.empty, .string ByteArray.empty] 0 w (fun j hj => by
    match j, hj with
    | 0, _ => simpa using h0
    | 1, _ => simpa using h1) (fun j hj => by
    match j, hj with
    | 0, _ => simpa using f0
    | 1, _ => simpa using f1) (fun v hv => by simp at hv; subst hv; rfl)
  simp only [Nat.add_zero] at hst
  have hzv : (zeroValue 38).run Try.prog w = .ok (.agg #[.string ByteArray.empty, .string ByteArray.empty]) w := by
    simp [zeroValue, typeInfo, hi, hz0]
  have hzc : (Builtin.zeroCells (Value.agg #[.string ByteArray.empty, .string ByteArray.empty]).cells 1).toList = [.string ByteArray.empty, .string ByteArray.empty] := by
    simp [Builtin.zeroCells, Value.cells, List.range, List.range.loop]
  simp only [Builtin.clear_, Sem.run_bind, List.getElem?_toArray, List.getElem?_cons_zero, run_underlying Try.underlying28, Result.andThen_ok, hzv, hzc, hst, Sem.run_pure]
theorem erase_cells {l : List (Txt × Txt)} {k m : Nat} (hm : l.length = m + 1) (hk : k ≤ m) : (l.eraseIdx k).flatMap pairCells = ((l.flatMap pairCells).take (k * 2)) ++ (l.drop (k + 1)).flatMap pairCells := by
  rw [List.eraseIdx_eq_take_drop_succ, List.flatMap_append]
  congr 1
  have e : l.flatMap pairCells = (l.take k).flatMap pairCells ++ (l.drop k).flatMap pairCells := by rw [← List.flatMap_append, List.take_append_drop]
  have hl : ((l.take k).flatMap pairCells).length = k * 2 := by rw [pairs_length]; simp; omega
  rw [e, ← hl, List.take_left]

set_option maxHeartbeats 400000 in
theorem deleteP_calls (l : List (Txt × Txt)) (base g cap k : Nat) (w : World) (hown : w.ownsRow base 38 2 (.slice (some ⟨g, 0, none⟩) l.length cap) l.length (l.flatMap pairCells)) (hk : k < l.length) (hcm : cap ≤ 9223372036854775807) (hlc : l.length ≤ cap) :
    Calls Try.prog 13 #[.slice (some ⟨g, 0, none⟩) l.length cap, .int .i64 k, .int .i64 ((k : Int) + 1)] w fun e w' => ∃ v, e = .returned v ∧ Prs w' (l.eraseIdx k) v ∧ Below base w w' := by
  obtain ⟨m, hm⟩ : ∃ m, l.length = m + 1 := ⟨l.length - 1, by omega⟩
  have hcell : ∀ j u, (l.flatMap pairCells)[j]? = some u → w.cell? ⟨g, j, none⟩ = some u := fun j u hu => by
    have hj : j < l.length * 2 := by rw [← pairs_length]; exact (List.getElem?_eq_some_iff.1 hu).1
    rw [hown.cellAt j hj]; exact hu
  have hfree : ∀ j, w.frozen? ⟨g, j, none⟩ = false := fun j => hown.frozenAt j
  have hbase : base ≤ g := (hown.lt g rfl).1
  have hsome : ∀ j, j < (m + 1) * 2 → (w.cell? ⟨g, j, none⟩).isSome = true := fun j hj => by
    have : j < (l.flatMap pairCells).length := by rw [pairs_length, hm]; exact hj
    rw [hcell j _ (List.getElem?_eq_getElem this)]; rfl
  have hlen : ((l.drop (k + 1)).flatMap pairCells).length = (m - k) * 2 := by rw [pairs_length]; simp; omega
  have hnews0 : ∀ j u, ((l.drop (k + 1)).flatMap pairCells)[j]? = some u → w.cell? ⟨g, (k + 1) * 2 + j, none⟩ = some u := fun j u hu => by
    refine hcell _ _ ?_
    have e : l.flatMap pairCells = (l.take (k + 1)).flatMap pairCells ++ (l.drop (k + 1)).flatMap pairCells := by rw [← List.flatMap_append, List.take_append_drop]
    have hl : ((l.take (k + 1)).flatMap pairCells).length = (k + 1) * 2 := by rw [pairs_length]; simp; omega
    rw [e, List.getElem?_append_right (by omega), hl, Nat.add_sub_cancel_left]
    exact hu
  obtain ⟨A, hA, hnews⟩ : ∃ A : Addr, (if cap = k + 1 then some (⟨g, 0, none⟩ : Addr) else some ⟨g, (k + 1) * 2, none⟩) = some A ∧ Hid (∀ j u, ((l.drop (k + 1)).flatMap pairCells)[j]? = some u → w.drew.cell? (A.add j) = some u) := by
    by_cases h : cap = k + 1
    · refine ⟨⟨g, 0, none⟩, by simp [h], fun j u hu => ?_⟩
      have : j < (m - k) * 2 := by rw [← hlen]; exact (List.getElem?_eq_some_iff.1 hu).1
      omega
    · exact ⟨⟨g, (k + 1) * 2, none⟩, by simp [h], fun j u hu => by rw [Addr.add_lit]; exact hnews0 j u hu⟩
  obtain ⟨t0, hi, hz0, hz1, hz2⟩ := info_parts Try.info_pair
  have hkm : k ≤ m := by omega
  -- what the append leaves
  generalize hnn : (l.drop (k + 1)).flatMap pairCells = news at *
  have hr : ∀ ty, (Builtin.append_ #[28, 28] ty #[.slice (some ⟨g, 0, none⟩) k cap, .slice (some A) (m - k) (cap - (k + 1))]).run Try.prog w.drew = .ok (.slice (some ⟨g, 0, none⟩) m cap) (w.drew.setCells g (k * 2) news) := fun ty => by
    have h := run_append_room_cells (P := Try.prog) w.drew 28 ty 38 t0 Try.underlying28 hi g 0 k cap A (m - k) (cap - (k + 1)) news (by rw [hz1]; exact hlen) hnews.out
      (fun u hu => pairs_one (l.drop (k + 1)) u (by rw [hnn]; exact hu)) (by omega) (fun j hj => by rw [hz1, Nat.zero_add]; exact hsome _ (by omega)) (fun j hj => hfree _)
    rw [h, hz1, Nat.zero_add, show k + (m - k) = m by omega]
  have hb1 : Below base w (w.drew.setCells g (k * 2) news) := below_setCells hbase _ _ _ (Below.refl _ _).drew
  have hc1 : ∀ j u, ((l.eraseIdx k).flatMap pairCells)[j]? = some u → (w.drew.setCells g (k * 2) news).cell? ⟨g, j, none⟩ = some u := fun j u hu => by
    rw [erase_cells hm hkm, hnn] at hu
    have hl : ((l.flatMap pairCells).take (k * 2)).length = k * 2 := by rw [List.length_take, pairs_length]; omega
    by_cases hj : j < k * 2
    · rw [List.getElem?_append_left (by omega), List.getElem?_take, if_pos hj] at hu
      rw [World.cell?_setCells_out g _ _ _ _ (fun _ _ => Or.inl hj)]
      exact hcell j u hu
    · rw [List.getElem?_append_right (by omega), hl] at hu
      have hj' : j - k * 2 < news.length := (List.getElem?_eq_some_iff.1 hu).1
      have := World.cell?_setCells_in g news (k * 2) w.drew (fun i hi => hsome _ (by omega)) (j - k * 2) hj'
      rw [show k * 2 + (j - k * 2) = j by omega] at this
      rw [this, ← hu, List.getElem?_eq_getElem hj']
  have hs1 : ∀ j, j < (m + 1) * 2 → ((w.drew.setCells g (k * 2) news).cell? ⟨g, j, none⟩).isSome = true := fun j hj => by
    by_cases h : k * 2 ≤ j ∧ j < k * 2 + news.length
    · have := World.cell?_setCells_in g news (k * 2) w.drew (fun i hi => hsome _ (by omega)) (j - k * 2) (by omega)
      rw [show k * 2 + (j - k * 2) = j by omega] at this
      rw [this]; rfl
    · rw [World.cell?_setCells_out g _ _ _ _ (fun _ _ => by simp only; omega)]
      exact hsome j hj
  have hf1 : ∀ j, (w.drew.setCells g (k * 2) news).frozen? ⟨g, j, none⟩ = false := fun j => by rw [World.frozen?_setCells]; exact hfree j
  have HR := Lib.hid hr
  have HB := Lib.hid hb1
  have HC := Lib.hid hc1
  clear hr hb1 hc1 hcell hfree hsome hlen hnews0 hnews hnn
  generalize w.drew.setCells g (k * 2) news = W1 at *
  have hcl := run_clear_pair W1 g (m * 2) (cap - m) (hs1 _ (by omega)) (hs1 _ (by omega)) (hf1 _) (hf1 _)
  clear hs1 hf1
  have hwr : IntKind.i64.wrap ((k : Int) + 1) = (k : Int) + 1 := by rw [IntKind.wrap_i64]; omega
  have hp0 : (0 : Int) ≤ (k : Int) + 1 := by omega
  have hp1 : (k : Int) + 1 ≤ (m : Int) + 1 := by omega
  have hp2 : ((k : Int) + 1).toNat = k + 1 := by omega
  have hne : ((k : Int) == (k : Int) + 1) = false := by simp; omega
  have hne2 : decide ((k : Int) = (k : Int) + 1) = false := by simp; omega
  have hkc : k ≤ cap := by omega
  have hmc : ¬ cap = m := by omega
  have hmc2 : m + 1 ≤ cap := by omega
  have HL := Lib.hid hm
  rw [hm]
  clear hown hk hm
  go_enter Try.func13, Try.ntmps13
  go_wp2
  refine wp_region_calm_tail 6 (by kernel_rfl) (by kernel_rfl) ?_
  simp only [List.take_succ_cons, List.take_zero, List.drop_succ_cons, List.drop_zero]
  repeat go_big_quiet_step (fail)
  refine wpQuiet_nil ?_
  refine Lib.wpList_append_run _ rfl _ _ _ _ rfl (.slice (some ⟨g, 0, none⟩) k cap) (.slice (some A) (m - k) (cap - (k + 1))) rfl rfl _ _ (HR.out _) ?_
  go_wp2
  go_ret
  refine ⟨.slice (some ⟨g, 0, none⟩) m cap, rfl, ?_, below_setCells hbase _ _ _ HB.out⟩
  have hn : (l.eraseIdx k).length = m := by rw [List.length_eraseIdx, HL.out, if_pos (by omega)]; omega
  refine ⟨some ⟨g, 0, none⟩, cap, by rw [hn], by omega, by unfold maxLen; omega, Or.inr ⟨g, 0, rfl, fun i hi' => ?_⟩⟩
  refine ⟨pairCells (l.eraseIdx k)[i], ⟨_, _, rfl, rfl, rfl⟩, rfl, fun j x hx => ?_⟩
  have hj : j < 2 := by
    have := (List.getElem?_eq_some_iff.1 hx).1
    simpa [pairCells] using this
  rw [World.cell?_setCells_out g _ _ _ _ (fun _ _ => Or.inl (by simp only; omega))]
  obtain ⟨k1, k2⟩ := pairs_at (l.eraseIdx k) i hi'
  match j, hj, hx with
  | 0, _, hx =>
    simp [pairCells] at hx
    subst hx
    simpa using HC.out _ _ k1
  | 1, _, hx =>
    simp [pairCells] at hx
    subst hx
    simpa using HC.out _ _ k2
end Go.Proofs.Ytianpbfieldngaa
