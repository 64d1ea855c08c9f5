/-
  Data as they lie in memory: texts, pairs, policies, and slices of what lies in rows of cells; what holds of them in one world holds in each later one in which old memory stands.
-/
import Derived.WalkKit
import Derived.Lib.Hide
import Derived.Lib.SlicesS
namespace Go.Proofs.YtdkclmkljcnmiaaDoor
open Go.RowKit
set_option linter.unusedVariables false
set_option linter.unusedSimpArgs false

instance instLawfulText : LawfulBEq ByteArray where
  eq_of_beq {a b} h := by
    cases a; cases b
    have h' : (_ == _) = true := h
    congr 1
    exact eq_of_beq h'
  rfl {a} := by
    cases a with
    | mk d => show (d == d) = true; exact beq_self_eq_true d

/-- Old memory stands. -/
def Keeps (w w' : World) : Prop := w.heap.size ≤ w'.heap.size ∧ ∀ b o, b < w.heap.size → w'.cell? ⟨b, o, none⟩ = w.cell? ⟨b, o, none⟩

theorem Keeps.refl (w : World) : Keeps w w := ⟨Nat.le_refl _, fun _ _ _ => rfl⟩
theorem Keeps.trans {a b c : World} (h : Keeps a b) (k : Keeps b c) : Keeps a c :=
  ⟨Nat.le_trans h.1 k.1, fun i o hi => (k.2 i o (Nat.lt_of_lt_of_le hi h.1)).trans (h.2 i o hi)⟩
theorem keeps_of_below {w w' : World} (h : Below w.heap.size w w') : Keeps w w' :=
  ⟨h.size, fun b o hb => h.cell (p := ⟨b, o, none⟩) hb⟩

theorem cell_lt {w : World} {b o : Nat} {v : Value} (h : w.cell? ⟨b, o, none⟩ = some v) : b < w.heap.size := by
  apply Decidable.byContradiction
  intro hb
  have : w.heap[b]? = none := by simp; omega
  simp [World.cell?, this] at h

/-- How a datum lies in a row of cells, in a world. -/
abbrev Enc (α : Type) := World → α → List Value → Prop
/-- It stays where old memory stands. -/
def Stays {α : Type} (E : Enc α) : Prop := ∀ w w' x vs, Keeps w w' → E w x vs → E w' x vs

/-- A slice of data, each of `k` cells. -/
def SliceOf {α : Type} (E : Enc α) (k : Nat) (w : World) (l : List α) (v : Value) : Prop :=
  ∃ p c, v = .slice p l.length c ∧ l.length ≤ c ∧ c ≤ maxLen ∧
    (l = [] ∨ ∃ b o, p = some ⟨b, o, none⟩ ∧ ∀ (i : Nat) (h : i < l.length), ∃ vs, E w l[i] vs ∧ vs.length = k ∧ ∀ j x, vs[j]? = some x → w.cell? ⟨b, o + i * k + j, none⟩ = some x)

theorem SliceOf.stays {α : Type} {E : Enc α} {k : Nat} (hE : Stays E) {w w' : World} (hk : Keeps w w') {l : List α} {v : Value} (h : SliceOf E k w l v) : SliceOf E k w' l v := by
  obtain ⟨p, c, e, h1, h2, h3⟩ := h
  refine ⟨p, c, e, h1, h2, ?_⟩
  rcases h3 with h3 | ⟨b, o, hp, h3⟩
  · exact Or.inl h3
  · refine Or.inr ⟨b, o, hp, fun i hi => ?_⟩
    obtain ⟨vs, g1, g2, g3⟩ := h3 i hi
    refine ⟨vs, hE _ _ _ _ hk g1, g2, fun j x hx => ?_⟩
    rw [hk.2 b _ (cell_lt (g3 j x hx))]
    exact g3 j x hx

/-- One cell that holds a value told by the datum. -/
def One {α : Type} (f : α → Value) : Enc α := fun _ x vs => vs = [f x]
theorem One.stays {α : Type} (f : α → Value) : Stays (One f) := fun _ _ _ _ _ h => h
/-- One cell that holds a slice. -/
def Sl {α : Type} (E : Enc α) (k : Nat) : Enc (List α) := fun w l vs => ∃ v, vs = [v] ∧ SliceOf E k w l v
theorem Sl.stays {α : Type} {E : Enc α} (hE : Stays E) (k : Nat) : Stays (Sl E k) := fun _ _ _ _ hk ⟨v, e, h⟩ => ⟨v, e, h.stays hE hk⟩
/-- Two data, one behind the other. -/
def Both {α β : Type} (E : Enc α) (F : Enc β) : Enc (α × β) := fun w x vs => ∃ us us', vs = us ++ us' ∧ E w x.1 us ∧ F w x.2 us'
theorem Both.stays {α β : Type} {E : Enc α} {F : Enc β} (hE : Stays E) (hF : Stays F) : Stays (Both E F) :=
  fun _ _ _ _ hk ⟨us, us', e, h1, h2⟩ => ⟨us, us', e, hE _ _ _ _ hk h1, hF _ _ _ _ hk h2⟩

abbrev Txt := ByteArray
def txt : Enc Txt := One Value.string
def num : Enc Int := One (Value.int .i64)
/-- `[]string`. -/
abbrev Strs (w : World) (l : List Txt) (v : Value) : Prop := SliceOf txt 1 w l v
/-- `[][2]string`. -/
abbrev Prs (w : World) (l : List (Txt × Txt)) (v : Value) : Prop := SliceOf (Both txt txt) 2 w l v

theorem Strs.stays {w w' : World} (hk : Keeps w w') {l : List Txt} {v : Value} (h : Strs w l v) : Strs w' l v := SliceOf.stays (One.stays _) hk h
theorem Prs.stays {w w' : World} (hk : Keeps w w') {l : List (Txt × Txt)} {v : Value} (h : Prs w l v) : Prs w' l v := SliceOf.stays (Both.stays (One.stays _) (One.stays _)) hk h

/-- A slice of texts, opened: its length, its room; its cells. -/
theorem Strs.cells {w : World} {l : List Txt} {v : Value} (h : Strs w l v) :
    ∃ b o c p, v = .slice p l.length c ∧ l.length ≤ c ∧ c ≤ 9223372036854775807 ∧ (0 < l.length → p = some ⟨b, o, none⟩) ∧ ∀ (i : Nat) (h : i < l.length), w.cell? ⟨b, o + i, none⟩ = some (.string l[i]) := by
  obtain ⟨p, c, e, h1, h2, h3⟩ := h
  unfold maxLen at h2
  rcases h3 with rfl | ⟨b, o, hp, h3⟩
  · exact ⟨0, 0, c, p, e, h1, by omega, fun h => absurd h (by simp), fun i h => absurd h (by simp)⟩
  · refine ⟨b, o, c, p, e, h1, by omega, fun _ => hp, fun i hi => ?_⟩
    obtain ⟨vs, g1, g2, g3⟩ := h3 i hi
    have := g3 0 (.string l[i]) (by rw [g1]; rfl)
    simpa using this
/-- A slice of pairs of texts, opened. -/
theorem Prs.cells {w : World} {l : List (Txt × Txt)} {v : Value} (h : Prs w l v) :
    ∃ b o c p, v = .slice p l.length c ∧ l.length ≤ c ∧ c ≤ 9223372036854775807 ∧ (0 < l.length → p = some ⟨b, o, none⟩) ∧
      ∀ (i : Nat) (h : i < l.length), w.cell? ⟨b, o + i * 2, none⟩ = some (.string l[i].1) ∧ w.cell? ⟨b, o + i * 2 + 1, none⟩ = some (.string l[i].2) := by
  obtain ⟨p, c, e, h1, h2, h3⟩ := h
  unfold maxLen at h2
  rcases h3 with rfl | ⟨b, o, hp, h3⟩
  · exact ⟨0, 0, c, p, e, h1, by omega, fun h => absurd h (by simp), fun i h => absurd h (by simp)⟩
  · refine ⟨b, o, c, p, e, h1, by omega, fun _ => hp, fun i hi => ?_⟩
    obtain ⟨vs, ⟨us, us', e1, e2, e3⟩, g2, g3⟩ := h3 i hi
    have e2' : us = [.string l[i].1] := e2
    have e3' : us' = [.string l[i].2] := e3
    subst e2' e3' e1
    exact ⟨by simpa using g3 0 _ rfl, by simpa using g3 1 _ rfl⟩
theorem SliceOf.take {α : Type} {E : Enc α} {k : Nat} {w : World} {l : List α} {p : Option Addr} {n c : Nat} (h : SliceOf E k w l (.slice p n c)) (i : Nat) (hi : i ≤ l.length) : SliceOf E k w (l.take i) (.slice p i c) := by
  obtain ⟨p', c', e, h1, h2, h3⟩ := h
  simp only [Value.slice.injEq] at e
  obtain ⟨rfl, _, rfl⟩ := e
  have hlen : (l.take i).length = i := by simp; omega
  refine ⟨p, c, by rw [hlen], by omega, h2, ?_⟩
  rcases h3 with rfl | ⟨b, o, hp, h3⟩
  · left; simp
  · right
    refine ⟨b, o, hp, fun j hj => ?_⟩
    rw [hlen] at hj
    have := h3 j (by omega)
    simpa using this

theorem alloc_cell_new (w : World) (A : Array Value) (t : TypeId) (n j : Nat) (hn : w.heap.size = n) : (w.alloc (.cells A t)).cell? ⟨n, j, none⟩ = A[j]? := by
  subst hn
  exact World.cell?_alloc_mark _ _ _ _ _
theorem alloc_cell_old (w : World) (o : Obj) (b j : Nat) (h : b < w.heap.size) : (w.alloc o).cell? ⟨b, j, none⟩ = w.cell? ⟨b, j, none⟩ := World.cell?_alloc_lt _ _ _ h
/-- One new block: what it holds. -/
theorem boxes1 {w W : World} {A : Array Value} {ta : TypeId} (h : w.alloc (.cells A ta) = W) :
    W.heap.size = w.heap.size + 1 ∧ Below w.heap.size w W ∧ (∀ j, W.cell? ⟨w.heap.size, j, none⟩ = A[j]?) := by
  subst h
  exact ⟨by simp, (Below.refl _ _).alloc (Nat.le_refl _) _, fun j => alloc_cell_new _ _ _ _ _ rfl⟩
/-- Two new blocks. -/
theorem boxes2 {w W : World} {A B : Array Value} {ta tb : TypeId} (h : (w.alloc (.cells A ta)).alloc (.cells B tb) = W) :
    W.heap.size = w.heap.size + 2 ∧ Below w.heap.size w W ∧ (∀ j, W.cell? ⟨w.heap.size, j, none⟩ = A[j]?) ∧ (∀ j, W.cell? ⟨w.heap.size + 1, j, none⟩ = B[j]?) := by
  subst h
  exact ⟨by simp, ((Below.refl _ _).alloc (Nat.le_refl _) _).alloc (by simp) _,
    fun j => by rw [alloc_cell_old _ _ _ _ (by simp), alloc_cell_new _ _ _ _ _ rfl], fun j => alloc_cell_new _ _ _ _ _ (by simp)⟩
/-- Three new blocks. -/
theorem boxes3 {w W : World} {A B C : Array Value} {ta tb tc : TypeId} (h : ((w.alloc (.cells A ta)).alloc (.cells B tb)).alloc (.cells C tc) = W) :
    W.heap.size = w.heap.size + 3 ∧ Below w.heap.size w W ∧ (∀ j, W.cell? ⟨w.heap.size, j, none⟩ = A[j]?) ∧ (∀ j, W.cell? ⟨w.heap.size + 1, j, none⟩ = B[j]?) ∧ (∀ j, W.cell? ⟨w.heap.size + 1 + 1, j, none⟩ = C[j]?) := by
  subst h
  exact ⟨by simp, (((Below.refl _ _).alloc (Nat.le_refl _) _).alloc (by simp) _).alloc (by simp; omega) _,
    fun j => by rw [alloc_cell_old _ _ _ _ (by simp; omega), alloc_cell_old _ _ _ _ (by simp), alloc_cell_new _ _ _ _ _ rfl],
    fun j => by rw [alloc_cell_old _ _ _ _ (by simp), alloc_cell_new _ _ _ _ _ (by simp)],
    fun j => alloc_cell_new _ _ _ _ _ (by simp)⟩
end Go.Proofs.YtdkclmkljcnmiaaDoor
