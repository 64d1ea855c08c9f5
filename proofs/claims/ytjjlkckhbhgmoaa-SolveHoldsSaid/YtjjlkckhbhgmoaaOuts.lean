/-
  Labels in a row of cells that a call has made: they stand where a cell of that row is written.
-/
import Derived.Test.YtjjlkckhbhgmoaaIntoC
import Derived.Deep.OwnRows
namespace Go.Proofs.Ytjjlkckhbhgmoaa
open Go.RowKit Go.Maps
set_option linter.unusedVariables false
set_option linter.unusedSimpArgs false

/-- A row that holds slices. -/
structure RowSl (w : World) (g : Nat) (t : TypeId) (n : Nat) (f : Nat → Value) : Prop where
  row : w.rowIs g t n f
  sl : ∀ i, i < n → ∃ p a c, f i = .slice p a c
theorem RowSl.cell {w : World} {g : Nat} {t : TypeId} {n : Nat} {f : Nat → Value} (h : RowSl w g t n f) {o : Nat} {v : Value} (hv : w.cell? ⟨g, o, none⟩ = some v) : ∃ p a c, v = .slice p a c := by
  obtain ⟨c, hb, hn, hc⟩ := h.row
  have e : c[o]? = some v := by simpa [World.cell?, hb] using hv
  obtain ⟨hlt, _⟩ := Array.getElem?_eq_some_iff.1 e
  rw [hc o (by omega)] at e
  cases e
  exact h.sl o (by omega)
theorem setRow_cell {w : World} {g i b o : Nat} {x : Value} (h : b ≠ g) : (w.setCell ⟨g, i, none⟩ x).cell? ⟨b, o, none⟩ = w.cell? ⟨b, o, none⟩ :=
  World.cell?_setCell_other _ _ _ _ (fun e => by have := congrArg Addr.block e; simp at this; omega)
theorem Strs.setRow {w : World} {g : Nat} {t : TypeId} {n : Nat} {f : Nat → Value} (hr : RowSl w g t n f) {l : List Txt} {v : Value} (h : Strs w l v) (i : Nat) (x : Value) : Strs (w.setCell ⟨g, i, none⟩ x) l v := by
  obtain ⟨p, c, e, h1, h2, h3⟩ := h
  refine ⟨p, c, e, h1, h2, ?_⟩
  rcases h3 with h3 | ⟨b, o, hp, h3⟩
  · exact .inl h3
  · refine .inr ⟨b, o, hp, fun j hj => ?_⟩
    obtain ⟨vs, g1, g2, g3⟩ := h3 j hj
    have g1' : vs = [.string l[j]] := g1
    subst g1'
    have g0 := g3 0 _ rfl
    have hne : b ≠ g := by
      rintro rfl
      obtain ⟨_, _, _, e⟩ := hr.cell g0
      cases e
    exact ⟨_, rfl, g2, fun k y hy => by rw [setRow_cell hne]; exact g3 k y hy⟩
theorem Lbl.setRow {w : World} {g : Nat} {t : TypeId} {n : Nat} {f : Nat → Value} (hr : RowSl w g t n f) {l : Lab} {v : Value} (h : Lbl w l v) (i : Nat) (x : Value) : Lbl (w.setCell ⟨g, i, none⟩ x) l v := by
  obtain ⟨p, c, e, h1, h2, h3⟩ := h
  refine ⟨p, c, e, h1, h2, ?_⟩
  rcases h3 with h3 | ⟨b, o, hp, h3⟩
  · exact .inl h3
  · refine .inr ⟨b, o, hp, fun j hj => ?_⟩
    obtain ⟨vs, ⟨us, us', e0, e1, ⟨v', e2, hs⟩⟩, g2, g3⟩ := h3 j hj
    have e1' : us = [.string l[j].1] := e1
    subst e1' e2 e0
    have g0 := g3 0 _ rfl
    have hne : b ≠ g := by
      rintro rfl
      obtain ⟨_, _, _, e⟩ := hr.cell g0
      cases e
    exact ⟨_, ⟨_, _, rfl, rfl, ⟨v', rfl, Strs.setRow hr hs i x⟩⟩, g2, fun k y hy => by rw [setRow_cell hne]; exact g3 k y hy⟩
/-- The labels that are looked for, in such a row. -/
structure Outs (w : World) (g : Nat) (t : TypeId) (n : Nat) (m : List Lab) (f : Nat → Value) : Prop where
  row : w.rowIs g t n f
  len : m.length = n
  labs : ∀ k (hk : k < m.length), Lbl w m[k] (f k)
section
variable {w w' : World} {g : Nat} {t : TypeId} {n : Nat} {m : List Lab} {f : Nat → Value}
theorem Outs.sl (h : Outs w g t n m f) : RowSl w g t n f := ⟨h.row, fun i hi => by
  obtain ⟨p, c, e, _⟩ := h.labs i (by rw [h.len]; exact hi)
  exact ⟨p, _, c, e⟩⟩
theorem Outs.below (h : Outs w g t n m f) (hb : Below w.heap.size w w') : Outs w' g t n m f := ⟨h.row.of_block (hb.block g h.row.lt), h.len, fun k hk => (h.labs k hk).stays (keeps_of_below hb)⟩
theorem Outs.set (h : Outs w g t n m f) {k : Nat} {x : Lab} {v : Value} (hx : Lbl w x v) : Outs (w.setCell ⟨g, k, none⟩ v) g t n (m.set k x) (fun j => if j = k then v else f j) := by
  refine ⟨h.row.set k v, by rw [List.length_set, h.len], fun j hj => ?_⟩
  rw [List.getElem_set]
  by_cases e : k = j
  · subst e
    rw [if_pos rfl, if_pos rfl]
    exact Lbl.setRow h.sl hx k v
  · rw [if_neg e, if_neg (fun e2 => e e2.symm)]
    exact Lbl.setRow h.sl (h.labs j (by simpa using hj)) k v
theorem Outs.labels (h : Outs w g t n m f) (hn : n ≤ 400) : Labs w m (.slice (some ⟨g, 0, none⟩) n n) := by
  refine ⟨some ⟨g, 0, none⟩, n, by rw [h.len], by rw [h.len]; exact Nat.le_refl _, by unfold maxLen; omega, .inr ⟨g, 0, rfl, fun i hi => ⟨[f i], ⟨f i, rfl, h.labs i hi⟩, rfl, fun j x hx => ?_⟩⟩⟩
  match j, hx with
  | 0, hx =>
    simp at hx; subst hx
    simpa using h.row.cell (by have := h.len; omega)
  | j + 1, hx => simp at hx
theorem Outs.start (w : World) (n : Nat) (t : TypeId) : Outs (w.alloc (.cells (madeCells #[.slice none 0 0] n) t)) w.heap.size t n (List.replicate n []) (fun _ => .slice none 0 0) :=
  ⟨World.rowIs_made w _ n _, by simp, fun k hk => by
    have : (List.replicate n ([] : Lab))[k] = [] := by simp
    rw [this]
    exact nilL _⟩
theorem Outs.cell (h : Outs w g t n m f) {k : Nat} (hk : k < n) : w.cell? ⟨g, k, none⟩ = some (f k) := h.row.cell hk
end
end Go.Proofs.Ytjjlkckhbhgmoaa
