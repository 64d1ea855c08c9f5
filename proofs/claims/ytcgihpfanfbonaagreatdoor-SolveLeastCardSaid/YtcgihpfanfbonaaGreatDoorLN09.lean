/-
  What lies in memory while the reference reckons a normal form.
-/
import Derived.Test.YtcgihpfanfbonaaGreatDoorLN06
import Derived.Test.YtcgihpfanfbonaaGreatDoorLN08
namespace Go.Proofs.YtcgihpfanfbonaaGreatDoor
open Go.RowKit Go.Maps Go.Sort
set_option linter.unusedVariables false
set_option linter.unusedSimpArgs false

theorem ownsRow_slice {w : World} {base : Nat} {e : TypeId} {size n : Nat} {v : Value} {xs : List Value} (h : w.ownsRow base e size v n xs) : ∃ p c, v = .slice p n c := by
  rcases h.2 with ⟨rfl, rfl⟩ | ⟨g, cap, cur, rfl, _⟩
  · exact ⟨_, _, rfl⟩
  · exact ⟨_, _, rfl⟩
theorem Own.robS {N : Nat} {w : World} {l : List Txt} {v : Value} {S : Nat → Prop} (h : Own N w l v) (hS : ∀ j, S j → j < N) : RobS S w l v := fun W hW => by
  obtain ⟨p, c, e, h1, h2, h3⟩ := h
  refine Own.strs (N := N) ⟨p, c, e, h1, h2, ?_⟩
  rcases h3 with rfl | ⟨b, o, hb, hp, h3⟩
  · exact .inl rfl
  · refine .inr ⟨b, o, hb, hp, fun i hi => ?_⟩
    have hc := h3 i hi
    exact (World.cell?_of_block (w := w) (hW.block b (cell_lt hc) (fun hs => by have := hS b hs; omega))).trans hc
/-- sort.Strings over a row of the call's own. -/
theorem sortRow_calls (N : Nat) (d : List Txt) (v : Value) (w : World) (h : w.ownsRow N 9 1 v d.length (d.map Value.string)) (hd : d.length ≤ 1048576) :
    Calls Tryz.prog 44 #[v] w fun e w' => e = .returned (.tuple #[]) ∧ Own N w' (srt cmpT d) v ∧ w.grownBy w' v.ownBlock := by
  have hl : (srt cmpT d).length = d.length := (srt_perm _ _).length_eq
  rcases h.2 with ⟨rfl, hn⟩ | ⟨g, cap, cur, rfl, hbase, hblk, q1, q2, q3, q4⟩
  · have hd0 : d = [] := List.length_eq_zero_iff.1 hn
    subst hd0
    clear h
    go_enter Tryz.func44, Tryz.ntmps44
    go_wp2_with (fail)
    refine (Tryz.slices_Sort_string_none _ _ _).mono ?_
    rintro e w4 ⟨rfl, rfl⟩
    go_wp2
    go_end0
    have e0 : srt cmpT ([] : List Txt) = [] := by simp [srt]
    rw [e0]
    exact ⟨rfl, ⟨none, 0, rfl, Nat.le_refl _, by unfold maxLen; omega, .inl rfl⟩, World.grownBy.refl _ _⟩
  · have hH : Holds encStr w g 0 (d.map bytesOf).toArray := holds_of_block hblk (by rw [enc_map, List.length_map]; simpa using q4)
    have hg : g < w.heap.size := (Array.getElem?_eq_some_iff.1 hblk).1
    have HS := Tryz.sort_Strings g 0 cap (d.map bytesOf) w hH hg (by rw [List.length_map]; omega)
    rw [List.length_map] at HS
    refine HS.mono ?_
    rintro e w4 ⟨rfl, n4, os4, hw4⟩
    have hH4 : Holds encStr w4 g 0 (((d.map bytesOf).mergeSort fun x y => decide (x ≤ y)) ++ []).toArray := by
      rw [hw4, List.append_nil]
      exact holds_grow _ _ _ _ _ _ (by simpa using hg) (holds_putRow _ _ _ _ _ _ (holds_ahead _ _ _ _ _ _ hH) (by simp))
    have hgr : w.grownBy w4 (some g) := by rw [hw4]; exact grownBy_sorted _
    have ho := own_of_holds (N := N) (l := srt cmpT d) (cap := cap) hbase (sort_bytes d) hH4 (by omega) q2
    rw [hl] at ho
    exact ⟨rfl, ho, hgr⟩

/-- The blocks that the map, the keys' box and the keys lie in. -/
def NS (B : Nat) (kv : Value) (j : Nat) : Prop := j = B ∨ j = B + 1 + 1 ∨ kv.ownBlock = some j
structure NSt (x : Lab) (B : Nat) (wo : World) (kv : Value) (D : DataW Value) (k : Nat) : Prop where
  map : wo.ownsMap Tryz.prog 9 heldElem B k D
  c5 : wo.cell? ⟨B + 1, 0, none⟩ = some (.map (some B))
  c6 : wo.cell? ⟨B + 1 + 1, 0, none⟩ = some kv
  f6 : wo.frozen? ⟨B + 1 + 1, 0, none⟩ = false
  row : wo.ownsRow (B + 3) 9 1 kv (polTo x k).length ((polTo x k).map fun p => Value.string (keyT p))
  st : Stored (NS B kv) wo D (polTo x k)
  size : B + 3 ≤ wo.heap.size
section
variable {x : Lab} {B k : Nat} {wo ws w2 w4 : World} {kv kv' v : Value} {D : DataW Value}
theorem NSt.lt (h : NSt x B wo kv D k) {j : Nat} (hj : NS B kv j) : j < wo.heap.size := by
  have := h.size
  rcases hj with rfl | rfl | hj
  · omega
  · omega
  · exact (h.row.lt j hj).2
theorem NSt.below (h : NSt x B wo kv D k) (hb : Below wo.heap.size wo ws) : NSt x B ws kv D k := by
  have hs := h.size
  exact ⟨owns_belowV (B := 0) h.map hb, (hb.cell (p := ⟨B + 1, 0, none⟩) (by simp only; omega)).trans h.c5, (hb.cell (p := ⟨B + 1 + 1, 0, none⟩) (by simp only; omega)).trans h.c6,
    (hb.frozen (p := ⟨B + 1 + 1, 0, none⟩) (by simp only; omega)).trans h.f6, own_below h.row hb, h.st.mono (GrownS.of_below hb (fun j hj _ => hj)), Nat.le_trans hs hb.size⟩
theorem NSt.old (h : NSt x B wo kv D k) {pk : Pol} (hpk : x[k]? = some pk) (hf : FullL x) (hb : Below wo.heap.size wo ws) (hr : RobS (NS B kv) ws (plainR pk.1 pk.2) v) (hin : plainP pk ∈ polTo x k)
    (hm : w4.ownsMap Tryz.prog 9 heldElem B (k + 1) (D.put (keyS (keyT (plainP pk))) (.held (.agg #[.string pk.1, v])))) (hg : ws.grownBy w4 (some B)) :
    NSt x B w4 kv (D.put (keyS (keyT (plainP pk))) (.held (.agg #[.string pk.1, v]))) (k + 1) := by
  have h' := h.below hb
  have hs := h'.size
  have e : polTo x (k + 1) = polTo x k := by rw [polTo_at hpk, if_pos hin]
  have hnb : kv.ownBlock = none ∨ kv.ownBlock ≠ some B := by
    cases hv : kv.ownBlock with
    | none => exact .inl rfl
    | some j => have := (h'.row.lt j hv).1; exact .inr (fun e => by simp at e <;> omega)
  refine ⟨hm, grown_cell hg h'.c5 (fun e => by simp at e <;> omega), grown_cell hg h'.c6 (fun e => by simp at e <;> omega), (grown_frozen hg (by omega) (fun e => by simp at e <;> omega)).trans h'.f6, ?_, ?_, Nat.le_trans hs hg.size⟩
  · rw [e]; exact h'.row.kept hg hnb
  · have hst := (h'.st.put (p := plainP pk) h'.map.isMap (fun p hp e => polTo_inj hf (List.mem_of_getElem? hpk) p hp e) hr).mono (GrownS.of_grown hg (fun j hj => by cases hj; exact .inl rfl))
    rw [polTo_at hpk]
    exact hst
theorem NSt.new (h : NSt x B wo kv D k) {pk : Pol} (hpk : x[k]? = some pk) (hf : FullL x) (hb : Below wo.heap.size wo ws) (hr : RobS (NS B kv) ws (plainR pk.1 pk.2) v) (hin : plainP pk ∉ polTo x k)
    (hrow : w2.ownsRow (B + 3) 9 1 kv' ((polTo x k).length + 1) ((polTo x k).map (fun p => Value.string (keyT p)) ++ [.string (keyT (plainP pk))])) (hg2 : ws.grownBy w2 kv.ownBlock) (hv' : kv'.ownBlock = kv.ownBlock ∨ kv'.ownBlock = some ws.heap.size)
    (hm : w4.ownsMap Tryz.prog 9 heldElem B (k + 1) (D.put (keyS (keyT (plainP pk))) (.held (.agg #[.string pk.1, v])))) (hg : (w2.setCell ⟨B + 1 + 1, 0, none⟩ kv').grownBy w4 (some B)) :
    NSt x B w4 kv' (D.put (keyS (keyT (plainP pk))) (.held (.agg #[.string pk.1, v]))) (k + 1) := by
  have h' := h.below hb
  have hs := h'.size
  have e : polTo x (k + 1) = polTo x k ++ [plainP pk] := by rw [polTo_at hpk, if_neg hin]
  have hbl : ∀ j, kv.ownBlock = some j → B + 3 ≤ j ∧ j < ws.heap.size := h'.row.lt
  have hbl' : ∀ j, kv'.ownBlock = some j → B + 3 ≤ j := fun j hj => (hrow.lt j hj).1
  have hg3 : w2.grownBy (w2.setCell ⟨B + 1 + 1, 0, none⟩ kv') (some (B + 1 + 1)) := grown_setCell _ _ _
  have hn : ∀ i, i < B + 3 → some i ≠ kv.ownBlock := fun i hi e => by have := (hbl i e.symm).1; omega
  have c5 := grown_cell hg (grown_cell hg3 (grown_cell hg2 h'.c5 (hn _ (by omega))) (fun e => by simp at e <;> omega)) (fun e => by simp at e <;> omega)
  have c6 : (w2.setCell ⟨B + 1 + 1, 0, none⟩ kv').cell? ⟨B + 1 + 1, 0, none⟩ = some kv' := World.cell?_setCell_same _ _ _ (grown_cell hg2 h'.c6 (hn _ (by omega)))
  have f6 : (w2.setCell ⟨B + 1 + 1, 0, none⟩ kv').frozen? ⟨B + 1 + 1, 0, none⟩ = false := by rw [World.frozen?_setCell]; exact (grown_frozen hg2 (by omega) (hn _ (by omega))).trans h'.f6
  have hk3 : kv'.ownBlock = none ∨ kv'.ownBlock ≠ some (B + 1 + 1) := by
    cases hv : kv'.ownBlock with
    | none => exact .inl rfl
    | some j => have := hbl' j hv; exact .inr (fun e => by simp at e <;> omega)
  have hk4 : kv'.ownBlock = none ∨ kv'.ownBlock ≠ some B := by
    cases hv : kv'.ownBlock with
    | none => exact .inl rfl
    | some j => have := hbl' j hv; exact .inr (fun e => by simp at e <;> omega)
  have hsz : B + 3 ≤ w4.heap.size := Nat.le_trans hs (Nat.le_trans hg2.size (Nat.le_trans hg3.size hg.size))
  refine ⟨hm, c5, grown_cell hg c6 (fun e => by simp at e <;> omega), (grown_frozen hg (Nat.lt_of_lt_of_le (by omega : B + 1 + 1 < ws.heap.size) (Nat.le_trans hg2.size hg3.size)) (fun e => by simp at e <;> omega)).trans f6, ?_, ?_, hsz⟩
  · rw [e, List.length_append, List.map_append]
    exact (hrow.kept hg3 hk3).kept hg hk4
  · have hst := h'.st.put (p := plainP pk) h'.map.isMap (fun p hp e => polTo_inj hf (List.mem_of_getElem? hpk) p hp e) hr
    have hall : GrownS (NS B kv) ws w4 := ((GrownS.of_grown hg2 (fun j hj => .inr (.inr hj))).trans (GrownS.of_grown hg3 (fun j hj => by cases hj; exact .inr (.inl rfl)))).trans (GrownS.of_grown hg (fun j hj => by cases hj; exact .inl rfl))
    rw [polTo_at hpk]
    refine Stored.step hst hall fun j hj hs' ht => ?_
    rcases ht with ht | ht | ht
    · exact hs' (.inl ht)
    · exact hs' (.inr (.inl ht))
    · rcases hv' with e | e
      · exact hs' (.inr (.inr (e.symm.trans ht)))
      · rw [e] at ht; cases ht; omega
end

/-- What lies there while a policy's readers are counted: its box, the map, the new policy's box and readers. -/
structure RSt (N : Nat) (o : Txt) (rs : List Txt) (vr : Value) (wo wi : World) (rv : Value) (E : DataW Unit) (m : Nat) (d : List Txt) : Prop where
  below : Below N wo wi
  p0 : wi.cell? ⟨N, 0, none⟩ = some (.string o)
  p1 : wi.cell? ⟨N, 1, none⟩ = some vr
  map : wi.ownsMap Tryz.prog 9 (plainElem Tryz.prog 3) (N + 1) m E
  cnt : CountD E (rs.take m)
  q0 : wi.cell? ⟨N + 1 + 1, 0, none⟩ = some (.string o)
  q1 : wi.cell? ⟨N + 1 + 1, 1, none⟩ = some rv
  f1 : wi.frozen? ⟨N + 1 + 1, 1, none⟩ = false
  row : wi.ownsRow (N + 3) 9 1 rv d.length (d.map Value.string)
  size : N + 3 ≤ wi.heap.size
section
variable {N m : Nat} {o : Txt} {rs d : List Txt} {vr rv rv' : Value} {wo wi w2 w3 : World} {E : DataW Unit}
theorem RSt.start (w : World) (hw : w.heap.size = N) (o : Txt) (rs : List Txt) (vr : Value) {W : World} (eW : ((w.alloc (.cells #[.string o, vr] 37)).alloc (.map #[] 0)).alloc (.cells #[.string o, .slice none 0 0] 37) = W) :
    RSt N o rs vr w W (.slice none 0 0) (.map []) 0 [] := by
  subst hw
  obtain ⟨V1, e1⟩ : ∃ V1, w.alloc (.cells #[.string o, vr] 37) = V1 := ⟨_, rfl⟩
  rw [e1] at eW
  obtain ⟨V2, e2⟩ : ∃ V2, V1.alloc (.map #[] 0) = V2 := ⟨_, rfl⟩
  rw [e2] at eW
  obtain ⟨z1, b1, m1⟩ := boxes1 e1
  obtain ⟨z3, b3, m3⟩ := boxes1 eW
  have z2 : V2.heap.size = V1.heap.size + 1 := by rw [← e2]; simp
  have b2 : Below V1.heap.size V1 V2 := by rw [← e2]; exact (Below.refl _ _).alloc (Nat.le_refl _) _
  have b23 : Below V1.heap.size V1 W := b2.trans (b3.mono b2.size)
  have hM : V2.ownsMap Tryz.prog 9 (plainElem Tryz.prog 3) V1.heap.size 0 (.map [] : DataW Unit) := by
    rw [← e2]; exact World.ownsMap_made (H := Unit) V1 Tryz.prog 9 _
  have e3 : V2.heap.size = w.heap.size + 1 + 1 := by omega
  rw [e3] at m3
  rw [z1] at hM
  exact ⟨b1.trans (b23.mono b1.size), (b23.cell (p := ⟨w.heap.size, 0, none⟩) (by simp only; omega)).trans (m1 0), (b23.cell (p := ⟨w.heap.size, 1, none⟩) (by simp only; omega)).trans (m1 1),
    owns_belowU hM b3, CountD.start, m3 0, m3 1, by rw [← eW]; exact World.frozen?_alloc_at _ _ _ _ (by show _ = _; omega), World.ownsRow_nil _ _ _ _, by omega⟩
/-- A count more. -/
theorem RSt.tick (h : RSt N o rs vr wo wi rv E m d) (hm : m < rs.length) {r : Txt} (hr : rs[m] = r) (ho : w2.ownsMap Tryz.prog 9 (plainElem Tryz.prog 3) (N + 1) (m + 1) (E.put (keyS r) (.lit (.int .i64 (((rs.take m).count r : Nat) + 1)))))
    (hg : wi.grownBy w2 (some (N + 1))) : RSt N o rs vr wo w2 rv (E.put (keyS r) (.lit (.int .i64 (((rs.take m).count r : Nat) + 1)))) (m + 1) d := by
  have hs := h.size
  have hnb : rv.ownBlock = none ∨ rv.ownBlock ≠ some (N + 1) := by
    cases hv : rv.ownBlock with
    | none => exact .inl rfl
    | some j => have := (h.row.lt j hv).1; exact .inr (fun e => by simp at e <;> omega)
  refine ⟨h.below.grown hg (by omega) (fun q hq => by cases hq; omega), grown_cell hg h.p0 (fun e => by simp at e <;> omega), grown_cell hg h.p1 (fun e => by simp at e <;> omega), ho, ?_, grown_cell hg h.q0 (fun e => by simp at e <;> omega), grown_cell hg h.q1 (fun e => by simp at e <;> omega),
    (grown_frozen hg (by omega) (fun e => by simp at e <;> omega)).trans h.f1, h.row.kept hg hnb, Nat.le_trans hs hg.size⟩
  rw [List.take_succ_eq_append_getElem hm, hr]
  exact CountD.add h.cnt h.map.isMap
/-- The readers written back. -/
theorem RSt.again (h : RSt N o rs vr wo wi rv E m d) : RSt N o rs vr wo (wi.setCell ⟨N + 1 + 1, 1, none⟩ rv) rv E m d := by
  have hs := h.size
  have hg3 : wi.grownBy (wi.setCell ⟨N + 1 + 1, 1, none⟩ rv) (some (N + 1 + 1)) := grown_setCell _ _ _
  have hk3 : rv.ownBlock = none ∨ rv.ownBlock ≠ some (N + 1 + 1) := by
    cases hv : rv.ownBlock with
    | none => exact .inl rfl
    | some j => have := (h.row.lt j hv).1; exact .inr (fun e => by simp at e <;> omega)
  exact ⟨h.below.setCell (by simp only; omega) _, grown_cell hg3 h.p0 (fun e => by simp at e <;> omega), grown_cell hg3 h.p1 (fun e => by simp at e <;> omega),
    h.map.kept hg3 (by simp), h.cnt, (World.cell?_setCell_other _ _ _ _ (by simp)).trans h.q0, World.cell?_setCell_same _ _ _ h.q1,
    by rw [World.frozen?_setCell]; exact h.f1, h.row.kept hg3 hk3, Nat.le_trans hs hg3.size⟩
theorem RSt.there (h : RSt N o rs vr wo wi rv E m d) (y : Obj) (hg : (wi.alloc y).grownBy w2 rv.ownBlock) : w2.cell? ⟨N + 1 + 1, 1, none⟩ = some rv ∧ w2.frozen? ⟨N + 1 + 1, 1, none⟩ = false := by
  have hs := h.size
  have hg0 : wi.grownBy w2 rv.ownBlock := grown_grown (Go.Proofs.YtcgihpfanfbonaaGreatDoor.grown_alloc wi y rv.ownBlock) hg
  have hn : ∀ i, i < N + 3 → some i ≠ rv.ownBlock := fun i hi e => by have := (h.row.lt i e.symm).1; omega
  exact ⟨grown_cell hg0 h.q1 (hn _ (by omega)), (grown_frozen hg0 (by omega) (hn _ (by omega))).trans h.f1⟩
/-- A reader more. -/
theorem RSt.push (h : RSt N o rs vr wo wi rv E m d) {r : Txt} (y : Obj) (hrow : w2.ownsRow (N + 3) 9 1 rv' (d.length + 1) (d.map Value.string ++ [.string r])) (hg : (wi.alloc y).grownBy w2 rv.ownBlock) :
    RSt N o rs vr wo (w2.setCell ⟨N + 1 + 1, 1, none⟩ rv') rv' E m (d ++ [r]) := by
  have hs := h.size
  have hg0 : wi.grownBy w2 rv.ownBlock := grown_grown (Go.Proofs.YtcgihpfanfbonaaGreatDoor.grown_alloc wi y rv.ownBlock) hg
  have hbl : ∀ j, rv.ownBlock = some j → N + 3 ≤ j ∧ j < wi.heap.size := h.row.lt
  have hbl' : ∀ j, rv'.ownBlock = some j → N + 3 ≤ j := fun j hj => (hrow.lt j hj).1
  have hn : ∀ i, i < N + 3 → some i ≠ rv.ownBlock := fun i hi e => by have := (hbl i e.symm).1; omega
  have hg3 : w2.grownBy (w2.setCell ⟨N + 1 + 1, 1, none⟩ rv') (some (N + 1 + 1)) := grown_setCell _ _ _
  have hk3 : rv'.ownBlock = none ∨ rv'.ownBlock ≠ some (N + 1 + 1) := by
    cases hv : rv'.ownBlock with
    | none => exact .inl rfl
    | some j => have := hbl' j hv; exact .inr (fun e => by simp at e <;> omega)
  have hs2 := hg0.size
  refine ⟨(h.below.grown hg0 (by omega) (fun q hq => by have := (hbl q hq).1; omega)).setCell (by simp only; omega) _, grown_cell hg3 (grown_cell hg0 h.p0 (hn _ (by omega))) (fun e => by simp at e <;> omega), grown_cell hg3 (grown_cell hg0 h.p1 (hn _ (by omega))) (fun e => by simp at e <;> omega),
    (h.map.kept hg0 (hn _ (by omega))).kept hg3 (by simp), h.cnt, (World.cell?_setCell_other _ _ _ _ (by simp)).trans (grown_cell hg0 h.q0 (hn _ (by omega))), World.cell?_setCell_same _ _ _ (grown_cell hg0 h.q1 (hn _ (by omega))),
    by rw [World.frozen?_setCell]; exact (grown_frozen hg0 (by omega) (hn _ (by omega))).trans h.f1, ?_, Nat.le_trans hs (Nat.le_trans hs2 hg3.size)⟩
  rw [List.length_append, List.map_append]
  exact hrow.kept hg3 hk3
end
end Go.Proofs.YtcgihpfanfbonaaGreatDoor
