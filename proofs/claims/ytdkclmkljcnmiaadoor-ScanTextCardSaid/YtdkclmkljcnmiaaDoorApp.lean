/-
  Data laid one behind the other in a row of cells; appending a slice of data, nil or not, onto a row of the call's own.
-/
import Derived.Test.YtdkclmkljcnmiaaDoorData
import Derived.Laws.AppendOwn
import Derived.Laws.OwnMore
import Derived.Lib.AppendZeros
namespace Go.Proofs.YtdkclmkljcnmiaaDoor
open Go.RowKit
set_option linter.unusedVariables false
set_option linter.unusedSimpArgs false

/-- Data one behind the other, each of `k` cells. -/
def Rows {α : Type} (E : Enc α) (k : Nat) (w : World) : List α → List Value → Prop
  | [], vs => vs = []
  | x :: l, vs => ∃ us us', vs = us ++ us' ∧ E w x us ∧ us.length = k ∧ Rows E k w l us'
/-- What holds a datum are plain cells. -/
def Plain {α : Type} (E : Enc α) : Prop := ∀ w x vs, E w x vs → ∀ u ∈ vs, u.oneCell' = true

section
variable {α β : Type} {E : Enc α} {F : Enc β} {k : Nat} {w w' : World}
theorem Rows.length : ∀ {l : List α} {vs : List Value}, Rows E k w l vs → vs.length = l.length * k
  | [], _, h => by have h' : _ = [] := h; subst h'; simp
  | x :: l, vs, h => by
    obtain ⟨us, us', rfl, _, h1, h2⟩ := h
    have := Rows.length h2
    simp [this, h1, Nat.add_mul, Nat.add_comm]
theorem Rows.append : ∀ {l m : List α} {vs us : List Value}, Rows E k w l vs → Rows E k w m us → Rows E k w (l ++ m) (vs ++ us)
  | [], m, vs, us, h, h' => by have e : vs = [] := h; subst e; simpa using h'
  | x :: l, m, vs, us, h, h' => by
    obtain ⟨a, b, rfl, h1, h2, h3⟩ := h
    exact ⟨a, b ++ us, by rw [List.append_assoc], h1, h2, Rows.append h3 h'⟩
theorem Rows.one {x : α} {vs : List Value} (h : E w x vs) (hk : vs.length = k) : Rows E k w [x] vs := ⟨vs, [], by simp, h, hk, rfl⟩
theorem Rows.stays (hE : Stays E) (hk : Keeps w w') : ∀ {l : List α} {vs : List Value}, Rows E k w l vs → Rows E k w' l vs
  | [], _, h => h
  | x :: l, vs, h => by
    obtain ⟨a, b, rfl, h1, h2, h3⟩ := h
    exact ⟨a, b, rfl, hE _ _ _ _ hk h1, h2, Rows.stays hE hk h3⟩
theorem Rows.at : ∀ {l : List α} {vs : List Value}, Rows E k w l vs → ∀ i (hi : i < l.length), ∃ us, E w l[i] us ∧ us.length = k ∧ ∀ j x, us[j]? = some x → vs[i * k + j]? = some x
  | [], _, _, i, hi => absurd hi (by simp)
  | x :: l, vs, h, 0, _ => by
    obtain ⟨a, b, rfl, h1, h2, h3⟩ := h
    refine ⟨a, h1, h2, fun j y hy => ?_⟩
    have := (List.getElem?_eq_some_iff.1 hy).1
    rw [Nat.zero_mul, Nat.zero_add, List.getElem?_append_left this]
    exact hy
  | x :: l, vs, h, i + 1, hi => by
    obtain ⟨a, b, rfl, h1, h2, h3⟩ := h
    obtain ⟨us, g1, g2, g3⟩ := Rows.at h3 i (by simpa using hi)
    refine ⟨us, g1, g2, fun j y hy => ?_⟩
    rw [List.getElem?_append_right (by rw [h2, Nat.add_mul]; omega), h2, show (i + 1) * k + j - k = i * k + j by rw [Nat.add_mul]; omega]
    exact g3 j y hy
theorem Rows.plain (hE : Plain E) : ∀ {l : List α} {vs : List Value}, Rows E k w l vs → ∀ u ∈ vs, u.oneCell' = true
  | [], _, h => by have e : _ = [] := h; subst e; intro u hu; cases hu
  | x :: l, vs, h => by
    obtain ⟨a, b, rfl, h1, h2, h3⟩ := h
    intro u hu
    rcases List.mem_append.1 hu with hu | hu
    · exact hE _ _ _ h1 u hu
    · exact Rows.plain hE h3 u hu
theorem Rows.of_at (hk : 0 < k) : ∀ (l : List α) (vs : List Value), vs.length = l.length * k → (∀ i (hi : i < l.length), ∃ us, E w l[i] us ∧ us.length = k ∧ ∀ j x, us[j]? = some x → vs[i * k + j]? = some x) → Rows E k w l vs
  | [], vs, h, _ => List.eq_nil_of_length_eq_zero (by simpa using h)
  | x :: l, vs, h, hi => by
    obtain ⟨us, g1, g2, g3⟩ := hi 0 (by simp)
    have hl : k ≤ vs.length := by rw [h]; simp [Nat.add_mul]
    have e : us = vs.take k := by
      apply List.ext_getElem
      · simp; omega
      · intro j h1 h2
        have := g3 j us[j] (List.getElem?_eq_getElem h1)
        rw [Nat.zero_mul, Nat.zero_add] at this
        have h3 := (List.getElem?_eq_some_iff.1 this).2
        simp [h3]
    refine ⟨us, vs.drop k, by rw [e, List.take_append_drop], g1, g2, Rows.of_at hk l _ (by simp [h, Nat.add_mul]) fun i hi' => ?_⟩
    obtain ⟨us', f1, f2, f3⟩ := hi (i + 1) (by simpa using hi')
    refine ⟨us', by simpa using f1, f2, fun j y hy => ?_⟩
    rw [List.getElem?_drop, show k + (i * k + j) = (i + 1) * k + j by rw [Nat.add_mul]; omega]
    exact f3 j y hy

theorem One.plain {f : α → Value} (h : ∀ x, (f x).oneCell' = true) : Plain (One f) := fun w x vs e u hu => by
  have e' : vs = [f x] := e
  subst e'
  simp at hu
  subst hu
  exact h x
theorem txt_plain : Plain txt := One.plain fun _ => rfl
theorem num_plain : Plain num := One.plain fun _ => rfl
theorem Sl.plain {j : Nat} : Plain (Sl E j) := fun w x vs e u hu => by
  obtain ⟨v, rfl, p, c, rfl, _⟩ := e
  simp at hu
  subst hu
  rfl
theorem Both.plain (hE : Plain E) (hF : Plain F) : Plain (Both E F) := fun w x vs e u hu => by
  obtain ⟨a, b, rfl, h1, h2⟩ := e
  rcases List.mem_append.1 hu with hu | hu
  · exact hE _ _ _ h1 u hu
  · exact hF _ _ _ h2 u hu

/-- How a datum lies does not hang on the world. -/
def Free {α : Type} (E : Enc α) : Prop := ∀ w w' x vs, E w x vs → E w' x vs
theorem One.free (f : α → Value) : Free (One f) := fun _ _ _ _ h => h
theorem Both.free (hE : Free E) (hF : Free F) : Free (Both E F) := fun _ _ _ _ ⟨a, b, e, h1, h2⟩ => ⟨a, b, e, hE _ _ _ _ h1, hF _ _ _ _ h2⟩
theorem Rows.free (hE : Free E) : ∀ {l : List α} {vs : List Value}, Rows E k w l vs → Rows E k w' l vs
  | [], _, h => h
  | x :: l, vs, h => by
    obtain ⟨a, b, rfl, h1, h2, h3⟩ := h
    exact ⟨a, b, rfl, hE _ _ _ _ h1, h2, Rows.free hE h3⟩
theorem cell_keep (hk : Keeps w w') {ad : Addr} {u : Value} (h : w.cell? ad = some u) : w'.cell? ad = some u := by
  obtain ⟨b, o, sp⟩ := ad
  have hs : sp = none := by simpa using World.cell?_spot h
  subst hs
  rw [hk.2 b o (cell_lt h)]
  exact h

/-- A slice's cells, one behind the other. -/
theorem SliceOf.rows (hk : 0 < k) {l : List α} {v : Value} (h : SliceOf E k w l v) : ∃ p c vs, v = .slice p l.length c ∧ l.length ≤ c ∧ c ≤ 9223372036854775807 ∧ Rows E k w l vs ∧ (p = none → l.length = 0) ∧
    ∀ ad : Addr, p = some ad → ∀ (j : Nat) (u : Value), vs[j]? = some u → w.cell? (ad.add j) = some u := by
  obtain ⟨p, c, rfl, h1, h2, h3⟩ := h
  rcases h3 with rfl | ⟨b, o, rfl, h3⟩
  · exact ⟨p, c, [], rfl, h1, by unfold maxLen at h2; omega, rfl, fun _ => rfl, fun _ _ j u hu => by simp at hu⟩
  · have : ∀ (n : Nat), n ≤ l.length → ∃ vs : List Value, Rows E k w (l.take n) vs ∧ ∀ (j : Nat) (u : Value), vs[j]? = some u → w.cell? ⟨b, o + j, none⟩ = some u := by
      intro n
      induction n with
      | zero => exact fun _ => ⟨[], rfl, fun j u hu => by simp at hu⟩
      | succ n ih =>
        intro hn
        obtain ⟨vs, g1, g2⟩ := ih (by omega)
        obtain ⟨us, f1, f2, f3⟩ := h3 n (by omega)
        refine ⟨vs ++ us, by rw [List.take_succ_eq_append_getElem (by omega)]; exact g1.append (.one f1 f2), fun j u hu => ?_⟩
        have hl : vs.length = n * k := by rw [g1.length, List.length_take, Nat.min_eq_left (by omega)]
        by_cases hj : j < vs.length
        · rw [List.getElem?_append_left hj] at hu
          exact g2 j u hu
        · rw [List.getElem?_append_right (by omega), hl] at hu
          have := f3 _ _ hu
          rw [show o + n * k + (j - n * k) = o + j by omega] at this
          exact this
    obtain ⟨vs, g1, g2⟩ := this l.length (Nat.le_refl _)
    rw [List.take_length] at g1
    refine ⟨_, c, vs, rfl, h1, by unfold maxLen at h2; omega, g1, fun e => by simp at e, fun ad e j u hu => ?_⟩
    simp only [Option.some.injEq] at e
    subst e
    rw [Go.WideShapes.add_plain]
    exact g2 j u hu
/-- What a call owns, as data. -/
theorem SliceOf.of_rows {l : List α} {base : Nat} {e : TypeId} {v : Value} {xs : List Value} (h : w.ownsRow base e k v l.length xs) (hr : Rows E k w l xs) : SliceOf E k w l v := by
  obtain ⟨hl, h⟩ := h
  rcases h with ⟨rfl, hn⟩ | ⟨g, cap, cur, rfl, _, hh, h1, h2, h3, h4⟩
  · exact ⟨none, 0, by rw [hn], by omega, by unfold maxLen; omega, Or.inl (List.length_eq_zero_iff.1 hn)⟩
  · refine ⟨_, cap, rfl, h1, h2, Or.inr ⟨g, 0, rfl, fun i hi => ?_⟩⟩
    obtain ⟨vs, e1, e2, e3⟩ := hr.at i hi
    refine ⟨vs, e1, e2, fun j x hx => ?_⟩
    have := e3 j x hx
    rw [← h4, List.getElem?_take] at this
    split at this
    · simpa [World.cell?, hh] using this
    · cases this
end

theorem own_below {w w' : World} {base : Nat} {e : TypeId} {size : Nat} {v : Value} {n : Nat} {xs : List Value} (h : w.ownsRow base e size v n xs) (hb : Below w.heap.size w w') : w'.ownsRow base e size v n xs :=
  h.kept (row := none) ⟨hb.os, hb.tape, hb.output, hb.size, fun q hq _ => hb.block q hq⟩ (by
    cases h : v.ownBlock with
    | none => exact .inl rfl
    | some g => exact .inr (by simp))
section
variable {P : Program} (w : World)
theorem run_append_nilsrc (base : Nat) (t ty e : TypeId) (i : TypeInfo) (size : Nat) (ht : P.underlying t = some (.slice e)) (hi : P.info? e = some i)
    (v : Value) (n : Nat) (xs : List Value) (hown : w.ownsRow base e size v n xs) (c : Nat) : (Builtin.append_ #[t, t] ty #[v, .slice none 0 c]).run P w = .ok v w := by
  rcases hown.2 with ⟨rfl, rfl⟩ | ⟨g, cap, cur, rfl, _, _, hnc, _⟩
  · simp [Builtin.append_, run_underlying ht, sizeOf, typeInfo, hi, Builtin.lenOf, Builtin.firstCells]
  · simp [Builtin.append_, run_underlying ht, sizeOf, typeInfo, hi, Builtin.lenOf, Builtin.firstCells, hnc, storeCells]
/-- append onto a row of the call's own, of a slice that is nil or not. -/
theorem wpList_append_src {ops : Array Oper} {rest : List Oper} {o : Oper} {a : Act} {Q : Exit → Act → World → Prop} (hgd : o.guard = none) (s x : Operand) (t : TypeId)
    (ho : o.op = .call { callee := .builtin .append, args := #[s, x], argTypes := #[t, t] })
    (base : Nat) (e : TypeId) (i : TypeInfo) (z : Value) (size bytes : Nat) (ht : P.underlying t = some (.slice e)) (hi : P.info? e = some i) (hz : i.zero = some z)
    (hsize : i.size = size) (hby : i.bytes = bytes) (hzs : z.cells.size = size) (hsz : 0 < size)
    (v : Value) (n : Nat) (xs : List Value) (hs : a.eval s = v) (hown : w.ownsRow base e size v n xs)
    (p : Option Addr) (m c : Nat) (news : List Value) (hx : a.eval x = .slice p m c) (hl : news.length = m * size) (hp : p = none → m = 0)
    (hnews : ∀ ad : Addr, p = some ad → ∀ (j : Nat) (u : Value), news[j]? = some u → w.cell? (ad.add j) = some u) (h1 : ∀ u ∈ news, u.oneCell' = true)
    (h63 : n + m ≤ maxLen) (hbytes : (n + m) * bytes ≤ 140737488355328) (hbase : base ≤ w.heap.size)
    (h : ∀ v' w', w'.ownsRow base e size v' (n + m) (xs ++ news) → w.grownBy w' v.ownBlock → wpList P ops Q rest (a.put o.dst v') w') : wpList P ops Q (o :: rest) a w := by
  rcases p with _ | ad
  · have hm := hp rfl
    subst hm
    have hn : news = [] := List.eq_nil_of_length_eq_zero (by simpa using hl)
    subst hn
    refine Lib.wpList_append_run w hgd s x t t ho v (.slice none 0 c) hs hx v w (run_append_nilsrc w base t o.type e i size ht hi v n xs hown c) ?_
    exact h v w (by simpa using hown) (World.grownBy.refl w _)
  · exact wpList_append_own w hgd s x t ho base e i z size bytes ht hi hz hsize hby hzs hsz v n xs hs hown ad m c news hx hl (hnews ad rfl) h1 h63 hbytes hbase fun v' w' h2 h3 _ => h v' w' h2 h3
end
end Go.Proofs.YtdkclmkljcnmiaaDoor
