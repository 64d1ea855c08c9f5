/-
  The frame of a law's row: arguments read as data of this seat's own; what a law that answers true, and leaves old memory as it was, says.
-/
import Derived.Test.YtdkclmkljcnmiaaDoorRows
import Derived.Test.YtdkclmkljcnmiaaDoorData
import Derived.ProofKit
import Derived.WalkKit
import Derived.OpenShut
import Derived.Below
import Derived.ChangeSame
namespace Go.Proofs.YtdkclmkljcnmiaaDoor
open Go.RowKit Go.WideShapes Go.ChangeShapes Go.ChangeAt
set_option linter.unusedVariables false
set_option linter.unusedSimpArgs false
set_option linter.unusedSectionVars false

theorem Tryd.own : ownKnob Tryd.prog.godebug = none := by kernel_rfl
theorem Tryd.laidOut : laidOutB Tryd.prog = true := by kernel_rfl

section
variable {H : Type} {enc : TypeId × Value → H} {P : Program}

theorem trodAll_stays (hl : laidOutB P = true) {W W' : World} (hb : Below W.heap.size W W') (sp : Nat → Bool) :
    ∀ (ts : List TypeId) (vs : List Value) (ds : List (DataW H)) (ps : List MemPlace), (ts.all fun t => P.readableRec t && decide (t < P.types.size)) = true →
      DataW.TrodAll enc P W 0 (fun _ => true) true ts vs ds ps → (∀ p ∈ ps, sp p.block = true) → (∀ p ∈ ps, p.block < W.heap.size) → DataW.TrodAll enc P W' 0 sp true ts vs ds ps
  | [], [], [], _, _, h, _, _ => h
  | [], [], _ :: _, _, _, h, _, _ => by cases h
  | [], _ :: _, _, _, _, h, _, _ => by cases h
  | _ :: _, [], _, _, _, h, _, _ => by cases h
  | _ :: _, _ :: _, [], _, _, h, _, _ => by cases h
  | t :: ts, v :: vs, d :: ds, ps, hr, h, hs, hlt => by
    obtain ⟨p, q, h1, h2, rfl⟩ := h
    simp only [List.all_cons, Bool.and_eq_true, decide_eq_true_eq] at hr
    exact ⟨p, q, WideElems.Trod_stays hl hr.1.1 hr.1.2 h1 (fun x hx => hb.same (hlt x (List.mem_append_left _ hx))) (fun x hx => hs x (List.mem_append_left _ hx)),
      trodAll_stays hl hb sp ts vs ds q hr.2 h2 (fun x hx => hs x (List.mem_append_right _ hx)) (fun x hx => hlt x (List.mem_append_right _ hx)), rfl⟩

/-- What a law says that answers true and leaves old memory as it was. -/
theorem law_post {f : Func} {s : ChangeSpec} {W W' : World} {args : Array Value} {ds gs : List (DataW H)} {before : List MemPlace} {tb : TypeId}
    (hl : laidOutB P = true) (hW : DataW.Whole enc P f.params.toList s.vars false W args.toList ds gs before) (hvars : s.vars = [])
    (hr : (f.params.toList.all fun t => P.readableRec t && decide (t < P.types.size)) = true)
    (hres : f.resultTypes = #[tb]) (htb : P.underlying tb = some .bool)
    (h1 : (s.fn H (ds ++ gs)).results = [.lit (.bool true)]) (h2 : (s.fn H (ds ++ gs)).args = ds) (h3 : (s.fn H (ds ++ gs)).vars = [])
    (hb : Below W.heap.size W W') : s.post enc P f false true false false W args (.bool true) W' := by
  have hW0 := hW
  obtain ⟨p, q, hA, hV, rfl, hfz, hnd⟩ := hW
  rw [hvars] at hV
  cases gs with
  | cons g gs => cases hV
  | nil =>
    obtain rfl : q = [] := hV
    have hlt : ∀ x ∈ p ++ [], x.block < W.heap.size := fun x hx => hW0.lt x hx
    have hold : ∀ x ∈ p ++ [], (fun b => decide (b < W.heap.size)) x.block = true := fun x hx => by simpa using hlt x hx
    have hT : ∀ (b : Nat) (sp : Nat → Bool) (hd : Bool), DataW.TrodAll enc P W' b sp hd f.resultTypes.toList (Value.resultList f.resultTypes.size (.bool true)) (s.fn H (ds ++ [])).results [] := fun b sp hd => by
      rw [h1, hres]
      exact trodAll_mk1 (shut_bool htb true)
    refine ⟨ds, [], p ++ [], [], p, [], hW0, hT _ _ _, ?_, ?_, World.keptBut_mono (fun x hx => ⟨hx, Or.inr (by simpa using hx)⟩) (hb.frame (· ∈ p ++ [])), fun h => by cases h⟩
    · rw [h2]
      exact trodAll_stays hl hb _ _ _ _ _ hr hA (fun x hx => hold x (by simpa using hx)) (fun x hx => hlt x (by simpa using hx))
    · rw [h3, hvars]
      rfl
end

/-- Whatever reads as data of a type lies so, is good, and its size is told. -/
def Rd {α : Type} (P : Program) (t : TypeId) (E : Enc α) (G : α → Prop) (m : α → Nat) : Prop :=
  ∀ (H : Type) (enc : TypeId × Value → H) (w : World) (fuel : Nat) (cs : List Value) (x : DataW H × List MemPlace), DataW.trod enc P w 0 (fun _ => true) true fuel t cs = some x → ∃ a : α, E w a cs ∧ G a ∧ m a ≤ Rows.uptoBulk x.1

section
variable {P : Program}

def szTxt (s : Txt) : Nat := s.size + 1
def szOne {α : Type} (_ : α) : Nat := 1
def szList {α : Type} (m : α → Nat) (l : List α) : Nat := (l.map m).sum + 1
def szBoth {α β : Type} (m : α → Nat) (n : β → Nat) (x : α × β) : Nat := m x.1 + n x.2
def okTxt (s : Txt) : Prop := s.size ≤ 9223372036854775807
def okNum (n : Int) : Prop := -9223372036854775808 ≤ n ∧ n ≤ 9223372036854775807
def okAny {α : Type} (_ : α) : Prop := True
def okList {α : Type} (G : α → Prop) (l : List α) : Prop := ∀ x ∈ l, G x
def okBoth {α β : Type} (G : α → Prop) (F : β → Prop) (x : α × β) : Prop := G x.1 ∧ F x.2
def truth : Enc Bool := One Value.bool

theorem sz_len {α : Type} {m : α → Nat} (h : ∀ x, 1 ≤ m x) (l : List α) : l.length ≤ szList m l := by
  unfold szList
  induction l with
  | nil => simp
  | cons x l ih => have := h x; simp at ih ⊢; omega
theorem szTxt_pos (s : Txt) : 1 ≤ szTxt s := by unfold szTxt; omega
theorem szPair_pos (x : Txt × Txt) : 1 ≤ szBoth szTxt szTxt x := by unfold szBoth szTxt; omega
theorem Rd.txt {t : TypeId} (ht : P.underlying t = some .string) : Rd P t txt okTxt szTxt := by
  intro H enc w fuel cs x h
  obtain ⟨s, rfl, rfl, hs⟩ := DataW.trod_string ht h
  exact ⟨s, rfl, by unfold okTxt; unfold maxLen at hs; omega, by simp only [Rows.uptoBulk, Array.length_toList]; exact Nat.le_refl _⟩
theorem Rd.num {t : TypeId} (ht : P.underlying t = some (.int .i64)) : Rd P t num okNum szOne := by
  intro H enc w fuel cs x h
  obtain ⟨n, rfl, rfl, hs⟩ := DataW.trod_int ht h
  exact ⟨n, rfl, by have := hs; simp [Lit.wf, IntKind.min, IntKind.max, IntKind.signed, IntKind.bits] at this; unfold okNum; omega, by simp [szOne, Rows.uptoBulk]⟩
theorem Rd.truth {t : TypeId} (ht : P.underlying t = some .bool) : Rd P t truth okAny szOne := by
  intro H enc w fuel cs x h
  obtain ⟨b, rfl, rfl⟩ := DataW.trod_bool ht h
  exact ⟨b, rfl, trivial, by simp [szOne, Rows.uptoBulk]⟩

theorem choose_list {α β : Type} {m : α → Nat} {n : β → Nat} : ∀ (es : List β) (Q : Nat → α → Prop), (∀ i (hi : i < es.length), ∃ a, Q i a ∧ m a ≤ n es[i]) →
    ∃ l : List α, l.length = es.length ∧ (∀ i (hi : i < l.length), Q i l[i]) ∧ (l.map m).sum ≤ (es.map n).sum
  | [], _, _ => ⟨[], rfl, fun i hi => absurd hi (by simp), by simp⟩
  | e :: es, Q, h => by
    obtain ⟨l, h1, h2, h3⟩ := choose_list es (fun i => Q (i + 1)) (fun i hi => by
      have := h (i + 1) (by simpa using hi)
      simpa using this)
    obtain ⟨a, g1, g2⟩ := h 0 (by simp)
    refine ⟨a :: l, by simp [h1], fun i hi => ?_, by simp at g2 ⊢; omega⟩
    cases i with
    | zero => exact g1
    | succ i => exact h2 i (by simpa using hi)
theorem bulkAll_sum {H : Type} (l : List (DataW H)) : Rows.uptoBulkAll l = (l.map Rows.uptoBulk).sum := by
  induction l with
  | nil => simp [Rows.uptoBulkAll]
  | cons x l ih => simp [Rows.uptoBulkAll, ih]

theorem Rd.slice {α : Type} {t e : TypeId} {k : Nat} {E : Enc α} {G : α → Prop} {m : α → Nat} (ht : P.underlying t = some (.slice e)) (hk : 0 < k) (hc : P.cellsOf e = k) (hE : Rd P e E G m) :
    Rd P t (Sl E k) (okList G) (szList m) := by
  intro H enc w fuel cs x h
  rcases DataW.trod_slice ht h with ⟨rfl, rfl⟩ | ⟨a, len, cap, elems, rest, n, rfl, rfl, rfl, hb, hl, hm, hlen, hel, hsp, hns⟩
  · exact ⟨[], ⟨_, rfl, none, 0, rfl, by simp, by unfold maxLen; omega, Or.inl rfl⟩, fun x hx => by simp at hx, by simp [szList, Rows.uptoBulk]⟩
  · rw [hc] at hel
    have each : ∀ i (hi : i < elems.length), ∃ a', (∃ vs, E w a' vs ∧ vs.length = k ∧ (∀ j, j < k → w.cell? ((a.add (i * k)).add j) = vs[j]?) ∧ G a') ∧ m a' ≤ Rows.uptoBulk elems[i].1 := by
      intro i hi
      have h1 := hel i (by omega)
      rw [List.getElem?_eq_getElem hi, Option.bind_eq_some_iff] at h1
      obtain ⟨vs, g1, g2⟩ := h1
      obtain ⟨_, g3, g4⟩ := World.cells?_some g1
      obtain ⟨a', e1, e2, e3⟩ := hE H enc w n vs _ g2
      exact ⟨a', ⟨vs, e1, g3, g4, e2⟩, e3⟩
    obtain ⟨l, l1, l2, l3⟩ := choose_list (n := fun y : DataW H × List MemPlace => Rows.uptoBulk y.1) elems _ each
    refine ⟨l, ⟨_, rfl, some a, cap, by rw [l1, hlen], by omega, hm, ?_⟩, ?_, ?_⟩
    · by_cases h0 : l = []
      · exact Or.inl h0
      · right
        have hpos : 0 < l.length := List.length_pos_iff.2 h0
        obtain ⟨b, o, spot⟩ := a
        obtain ⟨vs, e1, e2, e3, _⟩ := l2 0 hpos
        have hc0 := e3 0 hk
        have hspot : spot = none := by
          have : w.cell? ⟨b, o, spot⟩ = some (vs[0]'(by omega)) := by
            rw [← List.getElem?_eq_getElem (by omega), ← hc0]
            simp [Addr.add]
          simpa using World.cell?_spot this
        subst hspot
        refine ⟨b, o, rfl, fun i hi => ?_⟩
        obtain ⟨vs, e1, e2, e3, _⟩ := l2 i hi
        refine ⟨vs, e1, e2, fun j x hx => ?_⟩
        have hj : j < vs.length := (List.getElem?_eq_some_iff.1 hx).1
        have := e3 j (by omega)
        rw [hx, add_plain, add_plain] at this
        exact this
    · intro x hx
      obtain ⟨i, hi, rfl⟩ := List.getElem_of_mem hx
      obtain ⟨_, _, _, _, g⟩ := l2 i hi
      exact g
    · simp only [szList, Rows.uptoBulk, bulkAll_sum, List.map_map]
      have : (elems.map fun y : DataW H × List MemPlace => Rows.uptoBulk y.1) = elems.map (Rows.uptoBulk ∘ fun x => x.1) := rfl
      rw [this] at l3
      omega

theorem Rd.pair {α : Type} {t e : TypeId} {k : Nat} {E : Enc α} {G : α → Prop} {m : α → Nat} (ht : P.underlying t = some (.array 2 e)) (hc : P.cellsOf e = k) (hc2 : P.cellsOf t = 2 * k) (hE : Rd P e E G m) :
    Rd P t (Both E E) (okBoth G G) (szBoth m m) := by
  intro H enc w fuel cs x h
  obtain ⟨xs, n, rfl, rfl, h1, h2, h3⟩ := DataW.trod_array ht h
  match xs, h2, h3 with
  | [y0, y1], _, h3 =>
    have g0 := h3 0 (by omega)
    have g1 := h3 1 (by omega)
    obtain ⟨a, a1, a2, a3⟩ := hE H enc w n _ _ g0
    obtain ⟨b, b1, b2, b3⟩ := hE H enc w n _ _ g1
    refine ⟨(a, b), ⟨_, _, ?_, a1, b1⟩, ⟨a2, b2⟩, ?_⟩
    · rw [hc] at *
      simp only [Nat.zero_mul, List.drop_zero, Nat.one_mul]
      have : (cs.drop k).take k = cs.drop k := List.take_of_length_le (by simp; omega)
      rw [this, List.take_append_drop]
    · simp only [szBoth, Rows.uptoBulk, List.map_cons, List.map_nil, Rows.uptoBulkAll]
      omega

/-- The fields of a struct from one on, that lie from a place on. -/
def Rdf {α : Type} (P : Program) (fs : List Field) (o : Nat) (tot : Nat) (E : Enc α) (G : α → Prop) (m : α → Nat) : Prop :=
  ∀ (H : Type) (enc : TypeId × Value → H) (w : World) (n : Nat) (cs : List Value) (xs : List (DataW H × List MemPlace)), cs.length = tot → xs.length = fs.length →
    (∀ (i : Nat) (f : Field), fs[i]? = some f → DataW.trod enc P w 0 (fun _ => true) true n f.type ((cs.drop f.offset).take (P.cellsOf f.type)) = xs[i]?) →
    ∃ a : α, E w a (cs.drop o) ∧ G a ∧ m a ≤ (xs.map fun y => Rows.uptoBulk y.1).sum
theorem Rdf.last {α : Type} {f : Field} {o k : Nat} {t : TypeId} {E : Enc α} {G : α → Prop} {m : α → Nat} (ho : f.offset = o) (ht : f.type = t) (hc : P.cellsOf t = k) (hE : Rd P t E G m) : Rdf P [f] o (o + k) E G m := by
  subst ho ht
  intro H enc w n cs xs h1 h2 h3
  match xs, h2, h3 with
  | [y], _, h3 =>
    have g := h3 0 f rfl
    rw [hc, List.take_of_length_le (by simp; omega)] at g
    obtain ⟨a, a1, a2, a3⟩ := hE H enc w n _ _ g
    exact ⟨a, a1, a2, by simpa using a3⟩
theorem Rdf.cons {α β : Type} {f : Field} {fs : List Field} {o o' k tot : Nat} {t : TypeId} {E : Enc α} {G : α → Prop} {m : α → Nat} {F : Enc β} {G' : β → Prop} {m' : β → Nat}
    (ho : f.offset = o) (ht : f.type = t) (hc : P.cellsOf t = k) (ho' : o' = o + k) (hE : Rd P t E G m) (hF : Rdf P fs o' tot F G' m') : Rdf P (f :: fs) o tot (Both E F) (okBoth G G') (szBoth m m') := by
  subst ho ht ho'
  intro H enc w n cs xs h1 h2 h3
  cases xs with
  | nil => simp at h2
  | cons y xs =>
    have g := h3 0 f rfl
    rw [hc] at g
    obtain ⟨a, a1, a2, a3⟩ := hE H enc w n _ _ g
    obtain ⟨b, b1, b2, b3⟩ := hF H enc w n cs xs h1 (by simpa using h2) (fun i f' hf => by
      have := h3 (i + 1) f' (by simpa using hf)
      simpa using this)
    refine ⟨(a, b), ⟨_, _, ?_, a1, b1⟩, ⟨a2, b2⟩, by simp [szBoth] at a3 b3 ⊢; omega⟩
    rw [← List.drop_drop, List.take_append_drop]
theorem Rd.struct {α : Type} {t : TypeId} {fs : Array Field} {tot : Nat} {E : Enc α} {G : α → Prop} {m : α → Nat} (ht : P.underlying t = some (.struct fs)) (hc : P.cellsOf t = tot) (hF : Rdf P fs.toList 0 tot E G m) : Rd P t E G m := by
  intro H enc w fuel cs x h
  obtain ⟨xs, n, rfl, rfl, h1, h2, h3⟩ := DataW.trod_struct ht h
  obtain ⟨a, a1, a2, a3⟩ := hF H enc w n cs xs (by omega) (by simpa using h2) (fun i f hf => h3 i f (by simpa using hf))
  refine ⟨a, by simpa using a1, a2, ?_⟩
  simp only [Rows.uptoBulk, bulkAll_sum, List.map_map]
  have : (xs.map fun y : DataW H × List MemPlace => Rows.uptoBulk y.1) = xs.map (Rows.uptoBulk ∘ fun x => x.1) := rfl
  rw [this] at a3
  omega

/-- An argument, read. -/
theorem Rd.slice_arg {α : Type} {t : TypeId} {k : Nat} {E : Enc α} {G : List α → Prop} {m : List α → Nat} {H : Type} {enc : TypeId × Value → H} {w : World} {v : Value} {d : DataW H} {ps : List MemPlace}
    (hE : Rd P t (Sl E k) G m) (hv : ∃ p n c, v = .slice p n c) (h : DataW.Trod enc P w 0 (fun _ => true) true t v d ps) : ∃ l : List α, SliceOf E k w l v ∧ G l ∧ m l ≤ Rows.uptoBulk d := by
  obtain ⟨fuel, hf⟩ := h
  obtain ⟨a, ⟨u, h1, h2⟩, h3, h4⟩ := hE H enc w fuel _ _ hf
  obtain ⟨p, n, c, rfl⟩ := hv
  have : u = .slice p n c := by
    simp [Value.cells] at h1
    exact h1.symm
  subst this
  exact ⟨a, h2, h3, h4⟩
theorem Rd.txt_arg {t : TypeId} {H : Type} {enc : TypeId × Value → H} {w : World} {v : Value} {d : DataW H} {ps : List MemPlace} (ht : P.underlying t = some .string) (hv : ∃ s, v = .string s)
    (h : DataW.Trod enc P w 0 (fun _ => true) true t v d ps) : ∃ s : Txt, v = .string s ∧ okTxt s ∧ szTxt s ≤ Rows.uptoBulk d := by
  obtain ⟨fuel, hf⟩ := h
  obtain ⟨a, h1, h3, h4⟩ := Rd.txt ht H enc w fuel _ _ hf
  obtain ⟨s, rfl⟩ := hv
  have h1' : [Value.string s] = [Value.string a] := h1
  simp at h1'
  subst h1'
  exact ⟨s, rfl, h3, h4⟩
theorem Rd.num_arg {t : TypeId} {H : Type} {enc : TypeId × Value → H} {w : World} {v : Value} {d : DataW H} {ps : List MemPlace} (ht : P.underlying t = some (.int .i64)) (hv : ∃ n, v = .int .i64 n)
    (h : DataW.Trod enc P w 0 (fun _ => true) true t v d ps) : ∃ n : Int, v = .int .i64 n ∧ okNum n := by
  obtain ⟨fuel, hf⟩ := h
  obtain ⟨a, h1, h3, h4⟩ := Rd.num ht H enc w fuel _ _ hf
  obtain ⟨s, rfl⟩ := hv
  have h1' : [Value.int .i64 s] = [Value.int .i64 a] := h1
  simp at h1'
  subst h1'
  exact ⟨_, rfl, h3⟩
end
theorem rdStrs : Rd Tryd.prog 37 (Sl txt 1) (okList okTxt) (szList szTxt) := Rd.slice Tryd.underlying37 (by decide) (by kernel_rfl) (Rd.txt Tryd.underlying9)
end Go.Proofs.YtdkclmkljcnmiaaDoor
