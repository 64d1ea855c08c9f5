/-
  slices.Clone and slices.Reverse over bounds.
-/
import Derived.Test.YtjjlkckhbhgmoaaGreatSolveD
import Derived.Test.YtjjlkckhbhgmoaaGreatChiefB
import Derived.Test.YtjjlkckhbhgmoaaGreatShelfR
namespace Go.Proofs.YtjjlkckhbhgmoaaGreat
open Go.RowKit Go.Sort Go.Maps
set_option linter.unusedVariables false
set_option linter.unusedSimpArgs false

theorem info_bound : (Tryz.prog.info? 35).map (fun i => (i.zero, i.size, i.bytes)) = some (some (.agg #[.slice none 0 0, .slice none 0 0, .int .i64 0, .slice none 0 0, .int .i64 0, .slice none 0 0]), 6, 112) := by kernel_rfl
/-- A bound and its cells. -/
abbrev BndS := Bnd × List Value
theorem sl_one {α : Type} {E : Enc α} {k : Nat} {w : World} {l : List α} {v : Value} (h : SliceOf E k w l v) : v.oneCell' = true := by
  obtain ⟨p, c, rfl, _⟩ := h; rfl
theorem bnd_len {w : World} {b : Bnd} {vs : List Value} (h : bnd w b vs) : vs.length = 6 ∧ ∀ v ∈ vs, v.oneCell' = true := by
  obtain ⟨x0, x1, x2, x3, x4, x5, rfl, hb⟩ := bnd_is h
  refine ⟨rfl, fun v hv => ?_⟩
  simp only [List.mem_cons, List.not_mem_nil, or_false] at hv
  rcases hv with rfl | rfl | rfl | rfl | rfl | rfl
  · exact sl_one hb.from_
  · exact sl_one hb.lab
  · rw [hb.to]; rfl
  · exact sl_one hb.into
  · rw [hb.at_]; rfl
  · exact sl_one hb.for_
theorem rows_bnds {w : World} : ∀ {x : List Bnd} {vs : List Value}, Rows bnd 6 w x vs → ∃ d : List BndS, d.map Prod.fst = x ∧ vs = d.flatMap Prod.snd ∧ ∀ y ∈ d, bnd w y.1 y.2
  | [], vs, h => by
    have e : vs = [] := h
    subst e
    exact ⟨[], rfl, rfl, fun y hy => by cases hy⟩
  | p :: x, vs, h => by
    obtain ⟨us, us', rfl, h1, h2, h3⟩ := h
    obtain ⟨d, e1, e2, e3⟩ := rows_bnds h3
    refine ⟨(p, us) :: d, by simp [e1], by rw [List.flatMap_cons, ← e2], fun y hy => ?_⟩
    rcases List.mem_cons.1 hy with rfl | hy
    · exact h1
    · exact e3 y hy
theorem flat6_at {α : Type} (enc : α → List Value) (hk : ∀ x, (enc x).length = 6) : ∀ (d : List α) (i j : Nat) (hi : i < d.length), j < 6 → (d.flatMap enc)[i * 6 + j]? = (enc d[i])[j]?
  | [], i, j, hi, _ => absurd hi (by simp)
  | x :: d, 0, j, _, hj => by
    rw [List.flatMap_cons, List.getElem?_append_left (by rw [hk]; omega)]; simp
  | x :: d, i + 1, j, hi, hj => by
    rw [List.flatMap_cons, List.getElem?_append_right (by rw [hk]; omega)]
    have := flat6_at enc hk d i j (by simpa using hi) hj
    rw [show (i + 1) * 6 + j - (enc x).length = i * 6 + j by rw [hk]; omega]
    simpa using this
theorem flat6_len {α : Type} (enc : α → List Value) (hk : ∀ x, (enc x).length = 6) : ∀ d : List α, (d.flatMap enc).length = d.length * 6
  | [] => rfl
  | x :: d => by rw [List.flatMap_cons, List.length_append, flat6_len enc hk d, hk]; simp; omega
/-- A bound whose cells are six. -/
abbrev BndV := { x : BndS // x.2.length = 6 ∧ ∀ v ∈ x.2, v.oneCell' = true }
instance : Inhabited BndV := ⟨⟨(([], ([], (0, ([], (0, []))))), [.int .i64 0, .int .i64 0, .int .i64 0, .int .i64 0, .int .i64 0, .int .i64 0]), rfl, by decide⟩⟩
def encB (x : BndV) : List Value := x.1.2
theorem encB_len (x : BndV) : (encB x).length = 6 := x.2.1
theorem flatB_toList (A : Array BndV) : (flatK encB 6 A).toList = A.toList.flatMap encB := by
  apply List.ext_getElem?
  intro t
  by_cases ht : t < A.size * 6
  · have h1 : (flatK encB 6 A).toList[t]? = some ((encB A[t / 6]!)[t % 6]!) := by
      rw [Array.getElem?_toList, Array.getElem?_eq_getElem (by simpa using ht), ← getElem!_pos _ t (by simpa using ht), get_flatK _ _ _ _ ht]
    have hi : t / 6 < A.toList.length := by simp; omega
    have h2 := flat6_at encB encB_len A.toList (t / 6) (t % 6) hi (by omega)
    rw [show t / 6 * 6 + t % 6 = t by omega] at h2
    rw [h1, h2]
    have hi' : t / 6 < A.size := by omega
    have e : A.toList[t / 6] = A[t / 6]! := by simp [getElem!_pos, hi']
    rw [e, List.getElem?_eq_getElem (by rw [encB_len]; omega), getElem!_pos]
  · rw [List.getElem?_eq_none (by simp; omega), List.getElem?_eq_none (by rw [flat6_len _ encB_len]; simp; omega)]
theorem grown_putRowK {α : Type} [Inhabited α] (enc : α → List Value) (k : Nat) (w : World) (g off n : Nat) (d : Array α) : w.grownBy (putRowK enc k (Sort.ahead w n) g off d) (some g) := by
  refine ⟨rfl, rfl, rfl, by simp [putRowK, putRow, mapBlock, Sort.ahead], fun j hj hne => ?_⟩
  unfold putRowK
  have : g ≠ j := fun e => hne (by rw [e])
  simp [putRow, mapBlock, Sort.ahead, Array.getElem?_modify, this]

set_option maxHeartbeats 1000000 in
set_option maxRecDepth 100000 in
theorem cloneB_calls (x : List Bnd) (v : Value) (w : World) (h : Bnds w x v) (hn : x.length ≤ 1048576) :
    Calls Tryz.prog 6 #[v] w fun e w' => ∃ (v' : Value) (d : List BndS), e = .returned v' ∧ d.map Prod.fst = x ∧ (∀ y ∈ d, bnd w y.1 y.2) ∧ w'.ownsRow w.heap.size 35 6 v' d.length (d.flatMap Prod.snd) ∧ Below w.heap.size w w' := by
  obtain ⟨t0, hi, hz0, hz1, hz2⟩ := info_parts info_bound
  obtain ⟨p, c, vs, rfl, hlc, hcm, hr, hp, hx⟩ := SliceOf.rows (by decide) h
  obtain ⟨d, hd1, hd2, hd3⟩ := rows_bnds hr
  have q25 : ∀ (w : World) (a : Option Addr) (n c n' c' : Nat), (binOp .eql 24 (.slice a n c) (.slice none n' c')).run Tryz.prog w = .ok (.bool a.isNone) w := fun w a n c n' c' => Lib.run_eql_slice_nil w _ _ a n c n' c' Tryz.underlying24
  cases p with
  | none =>
    have h0 := hp rfl
    have hx0 : x = [] := List.eq_nil_of_length_eq_zero h0
    subst hx0
    clear hx hp hr hd1 hd2 hd3 d
    go_enter Tryz.func6, Tryz.ntmps6
    go_wp2
    go_ret
    exact ⟨_, [], rfl, rfl, (fun y hy => nomatch hy), World.ownsRow_nil _ _ _ _, Below.refl _ _⟩
  | some ad =>
    have hx' : ∀ (j : Nat) (u : Value), vs[j]? = some u → w.cell? (ad.add j) = some u := hx ad rfl
    have HX := Lib.hid hx'
    have hdl : d.length = x.length := by rw [← hd1, List.length_map]
    have hvl := hr.length
    have h1 : ∀ u ∈ vs, u.oneCell' = true := fun u hu => by
      rw [hd2] at hu
      obtain ⟨y, hy, hu⟩ := List.mem_flatMap.1 hu
      exact (bnd_len (hd3 y hy)).2 u hu
    have HD1 := Lib.hid hd1
    have HD2 := Lib.hid hd2
    have HD3 := Lib.hid hd3
    have HVL := Lib.hid hvl
    have H1 := Lib.hid h1
    clear hx hx' hp hr hd1 hd2 hd3 hvl h1
    go_enter Tryz.func6, Tryz.ntmps6
    go_wp2_with (at_builtin; refine wpList_append_own _ rfl _ _ 24 rfl w.heap.size 35 t0 (.agg #[.slice none 0 0, .slice none 0 0, .int .i64 0, .slice none 0 0, .int .i64 0, .slice none 0 0]) 6 112 Tryz.underlying24 hi hz0 hz1 hz2 rfl (by decide) _ _ _ rfl (World.ownsRow_made w #[] 0 (Nat.le_refl _) (Nat.zero_le _) (by simp)) ad x.length c vs rfl HVL.out ?qc2 H1.out ?qc4 ?qc5 ?qc6 ?_)
    case qc2 =>
      intro j u hj
      exact Lib.cell?_alloc_some _ (HX.out j u hj)
    case qc4 => unfold maxLen; omega
    case qc5 => omega
    case qc6 => simp
    intro v' w1 hown hgrow _
    have hB : Below w.heap.size w w1 := ((Below.refl _ w).alloc (Nat.le_refl _) _).grown hgrow (by simp) (by intro k hk; simp [Value.ownBlock] at hk; omega)
    have hR : w1.ownsRow w.heap.size 35 6 v' d.length (d.flatMap Prod.snd) := by
      rw [hdl, ← HD2.out]
      simpa using hown
    have HB := Lib.hid hB
    have HR := Lib.hid hR
    clear hown hgrow hB hR
    go_wp2
    go_ret
    exact ⟨_, d, rfl, HD1.out, HD3.out, HR.out, HB.out⟩

theorem revB_calls (base : Nat) (v : Value) (d : List BndS) (w : World) (hd : ∀ y ∈ d, y.2.length = 6 ∧ ∀ v ∈ y.2, v.oneCell' = true) (h : w.ownsRow base 35 6 v d.length (d.flatMap Prod.snd)) (hsz : d.length ≤ 1048576) :
    Calls Tryz.prog 7 #[v] w fun e w' => e = .returned (.tuple #[]) ∧ w'.ownsRow base 35 6 v d.length (d.reverse.flatMap Prod.snd) ∧ w.grownBy w' v.ownBlock := by
  obtain ⟨hl, hown⟩ := h
  rcases hown with ⟨rfl, hn⟩ | ⟨g, cap, cur, rfl, hbase, hblk, q1, q2, q3, q4⟩
  · obtain rfl : d = [] := List.eq_nil_of_length_eq_zero hn
    have hc := AnyQ.slices_Reverse_empty Tryz.revBnd none 0 w
    change Calls Tryz.prog 7 _ _ _ at hc
    refine hc.mono ?_
    rintro e w' ⟨rfl, rfl⟩
    exact ⟨rfl, ⟨by simp, .inl ⟨rfl, rfl⟩⟩, World.grownBy.refl _ _⟩
  · obtain ⟨A, hA⟩ : ∃ A : Array BndV, A.toList.map Subtype.val = d := ⟨(d.attach.map fun x => (⟨x.1, hd x.1 x.2⟩ : BndV)).toArray, by simp only [List.map_map, Function.comp_def]; exact List.attach_map_subtype_val d⟩
    have hAs : A.size = d.length := by have := congrArg List.length hA; simpa using this
    have hfl : ∀ B : Array BndV, (flatK encB 6 B).toList = (B.toList.map Subtype.val).flatMap Prod.snd := fun B => by
      rw [flatB_toList, List.flatMap_map]
      rfl
    have hH : HoldsK encB 6 w g 0 A := fun t ht => by
      have ht' : t < d.length * 6 := by rw [← hAs]; simpa using ht
      have e1 : (flatK encB 6 A)[t]? = (d.flatMap Prod.snd)[t]? := by rw [← Array.getElem?_toList, hfl, hA]
      have e2 : (flatK encB 6 A)[t]? = some (flatK encB 6 A)[t]! := by rw [getElem!_pos _ t ht, Array.getElem?_eq_getElem ht]
      refine ⟨?_, by simp [World.frozen?, hblk]⟩
      rw [← q4, List.getElem?_take_of_lt ht', Array.getElem?_toList, e2] at e1
      simpa [World.cell?, hblk] using e1.symm
    have hc := AnyQ.slices_Reverse Tryz.revBnd 6 (fun w => Tryz.isAgg35 w) (fun w => Tryz.sizeOf35 w) encB encB_len (fun x => x.2.2) g 0 cap A w hH (by omega)
    change Calls Tryz.prog 7 _ _ _ at hc
    rw [hAs] at hc
    refine hc.mono ?_
    rintro e w' ⟨rfl, n, rfl⟩
    refine ⟨rfl, ?_, grown_putRowK _ _ _ _ _ _ _⟩
    have hrs : A.reverse.toList.map Subtype.val = d.reverse := by simp [hA]
    have hlen : (d.reverse.flatMap Prod.snd).length = d.length * 6 := by
      rw [← hrs, ← hfl]; simp [hAs]
    refine ⟨hlen, .inr ⟨g, cap, putCells id 0 (flatK encB 6 A.reverse) cur, rfl, hbase, ?_, q1, q2, by simp [putCells, q3], ?_⟩⟩
    · unfold putRowK
      simp [putRow, mapBlock, Sort.ahead, Array.getElem?_modify, hblk, onCells]
    · rw [← hrs, ← hfl]
      apply List.ext_getElem?
      intro t
      by_cases ht : t < d.length * 6
      · have ht2 : t < (flatK encB 6 A.reverse).size := by rw [size_flatK]; simp [hAs]; exact ht
        have ht3 : t < cur.size := by rw [q3]; omega
        rw [List.getElem?_take_of_lt ht, Array.getElem?_toList, Array.getElem?_toList, Array.getElem?_eq_getElem ht2, ← getElem!_pos _ t ht2]
        simp [putCells, ht3]
        intro h; rw [hAs] at h; omega
      · rw [List.getElem?_take_eq_none (by omega), List.getElem?_eq_none (by simp [hAs]; omega)]

/-- Such a row is read as bounds. -/
theorem bnds_of_row {base : Nat} {v : Value} {d : List BndS} {w0 w : World} (hd : ∀ y ∈ d, bnd w0 y.1 y.2) (hb : Below w0.heap.size w0 w) (h : w.ownsRow base 35 6 v d.length (d.flatMap Prod.snd)) : Bnds w (d.map Prod.fst) v := by
  refine SliceOf.of_owns (by rw [List.length_map]; exact h) fun i hi => ?_
  have hi' : i < d.length := by simpa using hi
  refine ⟨d[i].2, ?_, (bnd_len (hd _ (List.getElem_mem hi'))).1, fun j x hx => ?_⟩
  · rw [List.getElem_map]
    exact bnd_stays _ _ _ _ (keeps_of_below hb) (hd _ (List.getElem_mem hi'))
  · have hj : j < 6 := by
      have h1 := (bnd_len (hd _ (List.getElem_mem hi'))).1
      have h2 := (List.getElem?_eq_some_iff.1 hx).1
      omega
    have key : ∀ (d : List BndS) (i : Nat) (hi : i < d.length), (∀ y ∈ d, y.2.length = 6) → (d.flatMap Prod.snd)[i * 6 + j]? = (d[i].2)[j]? := by
      intro d
      induction d with
      | nil => intro i hi; simp at hi
      | cons y d ih =>
        intro i hi hy
        have hy0 := hy y (by simp)
        cases i with
        | zero => rw [List.flatMap_cons, List.getElem?_append_left (by rw [hy0]; omega)]; simp
        | succ i =>
          rw [List.flatMap_cons, List.getElem?_append_right (by rw [hy0]; omega), show (i + 1) * 6 + j - y.2.length = i * 6 + j by rw [hy0]; omega, ih i (by simpa using hi) fun z hz => hy z (by simp [hz])]
          simp
    rw [key d i hi' fun y hy => (bnd_len (hd y hy)).1]
    exact hx
end Go.Proofs.YtjjlkckhbhgmoaaGreat
