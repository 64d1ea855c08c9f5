/-
  Data as they lie in memory: texts, pairs, policies, and slices of what lies in rows of cells; what holds of them in one world holds in each later one in which old memory stands. The frame of a law's row: arguments read as data of this seat's own; what a law that answers true, and leaves old memory as it was, says. The wrap of a row that lists variables, the world's shape kept. Letters, figures, words, names: what the small functions of package scan compute. Words and names: scan.words, scan.Word, scan.Name; slices.IndexFunc and ContainsFunc over texts. chief.Check: whether chiefs, and who acts for whom, are right.
-/
import Derived.WalkKit
import Derived.Lib.Hide
import Derived.Lib.SlicesS
import Derived.Test.YtcgihpfanfbonaaGreatDoorRows
import Derived.ProofKit
import Derived.OpenShut
import Derived.Below
import Derived.ChangeSame
import Derived.Test.YtcgihpfanfbonaaGreatDoorTie
import Derived.Test.YtcgihpfanfbonaaGreatDoorCards
import Derived.HandedShaped
import Derived.Shelf.Vars
import Derived.Lay
import Derived.LaidOnce
import Derived.SevenTiedAt
import Derived.Test.YtcgihpfanfbonaaGreatDoorProg
import Derived.Deep.QuietTactic
import Derived.BigQuiet
namespace Go.Proofs.YtcgihpfanfbonaaGreatDoor
open Go.RowKit
set_option linter.unusedVariables false
set_option linter.unusedSimpArgs false

instance instLawfulText : LawfulBEq ByteArray where
  eq_of_beq {a b} h := by
    cases a; cases b
    have h' : (_ == _) = true := h
    congr 1
    exact eq_of_beq h'
  rfl {a} := by
    cases a with
    | mk d => show (d == d) = true; exact beq_self_eq_true d

/-- Old memory stands. -/
def Keeps (w w' : World) : Prop := w.heap.size ≤ w'.heap.size ∧ ∀ b o, b < w.heap.size → w'.cell? ⟨b, o, none⟩ = w.cell? ⟨b, o, none⟩

theorem Keeps.refl (w : World) : Keeps w w := ⟨Nat.le_refl _, fun _ _ _ => rfl⟩
theorem Keeps.trans {a b c : World} (h : Keeps a b) (k : Keeps b c) : Keeps a c :=
  ⟨Nat.le_trans h.1 k.1, fun i o hi => (k.2 i o (Nat.lt_of_lt_of_le hi h.1)).trans (h.2 i o hi)⟩
theorem keeps_of_below {w w' : World} (h : Below w.heap.size w w') : Keeps w w' :=
  ⟨h.size, fun b o hb => h.cell (p := ⟨b, o, none⟩) hb⟩

theorem cell_lt {w : World} {b o : Nat} {v : Value} (h : w.cell? ⟨b, o, none⟩ = some v) : b < w.heap.size := by
  apply Decidable.byContradiction
  intro hb
  have : w.heap[b]? = none := by simp; omega
  simp [World.cell?, this] at h

/-- How a datum lies in a row of cells, in a world. -/
abbrev Enc (α : Type) := World → α → List Value → Prop
/-- It stays where old memory stands. -/
def Stays {α : Type} (E : Enc α) : Prop := ∀ w w' x vs, Keeps w w' → E w x vs → E w' x vs

/-- A slice of data, each of `k` cells. -/
def SliceOf {α : Type} (E : Enc α) (k : Nat) (w : World) (l : List α) (v : Value) : Prop :=
  ∃ p c, v = .slice p l.length c ∧ l.length ≤ c ∧ c ≤ maxLen ∧
    (l = [] ∨ ∃ b o, p = some ⟨b, o, none⟩ ∧ ∀ (i : Nat) (h : i < l.length), ∃ vs, E w l[i] vs ∧ vs.length = k ∧ ∀ j x, vs[j]? = some x → w.cell? ⟨b, o + i * k + j, none⟩ = some x)

theorem SliceOf.stays {α : Type} {E : Enc α} {k : Nat} (hE : Stays E) {w w' : World} (hk : Keeps w w') {l : List α} {v : Value} (h : SliceOf E k w l v) : SliceOf E k w' l v := by
  obtain ⟨p, c, e, h1, h2, h3⟩ := h
  refine ⟨p, c, e, h1, h2, ?_⟩
  rcases h3 with h3 | ⟨b, o, hp, h3⟩
  · exact Or.inl h3
  · refine Or.inr ⟨b, o, hp, fun i hi => ?_⟩
    obtain ⟨vs, g1, g2, g3⟩ := h3 i hi
    refine ⟨vs, hE _ _ _ _ hk g1, g2, fun j x hx => ?_⟩
    rw [hk.2 b _ (cell_lt (g3 j x hx))]
    exact g3 j x hx

/-- One cell that holds a value told by the datum. -/
def One {α : Type} (f : α → Value) : Enc α := fun _ x vs => vs = [f x]
theorem One.stays {α : Type} (f : α → Value) : Stays (One f) := fun _ _ _ _ _ h => h
/-- One cell that holds a slice. -/
def Sl {α : Type} (E : Enc α) (k : Nat) : Enc (List α) := fun w l vs => ∃ v, vs = [v] ∧ SliceOf E k w l v
theorem Sl.stays {α : Type} {E : Enc α} (hE : Stays E) (k : Nat) : Stays (Sl E k) := fun _ _ _ _ hk ⟨v, e, h⟩ => ⟨v, e, h.stays hE hk⟩
/-- Two data, one behind the other. -/
def Both {α β : Type} (E : Enc α) (F : Enc β) : Enc (α × β) := fun w x vs => ∃ us us', vs = us ++ us' ∧ E w x.1 us ∧ F w x.2 us'
theorem Both.stays {α β : Type} {E : Enc α} {F : Enc β} (hE : Stays E) (hF : Stays F) : Stays (Both E F) :=
  fun _ _ _ _ hk ⟨us, us', e, h1, h2⟩ => ⟨us, us', e, hE _ _ _ _ hk h1, hF _ _ _ _ hk h2⟩

abbrev Txt := ByteArray
def txt : Enc Txt := One Value.string
def num : Enc Int := One (Value.int .i64)
/-- `[]string`. -/
abbrev Strs (w : World) (l : List Txt) (v : Value) : Prop := SliceOf txt 1 w l v
/-- `[][2]string`. -/
abbrev Prs (w : World) (l : List (Txt × Txt)) (v : Value) : Prop := SliceOf (Both txt txt) 2 w l v

theorem Strs.stays {w w' : World} (hk : Keeps w w') {l : List Txt} {v : Value} (h : Strs w l v) : Strs w' l v := SliceOf.stays (One.stays _) hk h
theorem Prs.stays {w w' : World} (hk : Keeps w w') {l : List (Txt × Txt)} {v : Value} (h : Prs w l v) : Prs w' l v := SliceOf.stays (Both.stays (One.stays _) (One.stays _)) hk h

/-- A slice of texts, opened: its length, its room; its cells. -/
theorem Strs.cells {w : World} {l : List Txt} {v : Value} (h : Strs w l v) :
    ∃ b o c p, v = .slice p l.length c ∧ l.length ≤ c ∧ c ≤ 9223372036854775807 ∧ (0 < l.length → p = some ⟨b, o, none⟩) ∧ ∀ (i : Nat) (h : i < l.length), w.cell? ⟨b, o + i, none⟩ = some (.string l[i]) := by
  obtain ⟨p, c, e, h1, h2, h3⟩ := h
  unfold maxLen at h2
  rcases h3 with rfl | ⟨b, o, hp, h3⟩
  · exact ⟨0, 0, c, p, e, h1, by omega, fun h => absurd h (by simp), fun i h => absurd h (by simp)⟩
  · refine ⟨b, o, c, p, e, h1, by omega, fun _ => hp, fun i hi => ?_⟩
    obtain ⟨vs, g1, g2, g3⟩ := h3 i hi
    have := g3 0 (.string l[i]) (by rw [g1]; rfl)
    simpa using this
/-- A slice of pairs of texts, opened. -/
theorem Prs.cells {w : World} {l : List (Txt × Txt)} {v : Value} (h : Prs w l v) :
    ∃ b o c p, v = .slice p l.length c ∧ l.length ≤ c ∧ c ≤ 9223372036854775807 ∧ (0 < l.length → p = some ⟨b, o, none⟩) ∧
      ∀ (i : Nat) (h : i < l.length), w.cell? ⟨b, o + i * 2, none⟩ = some (.string l[i].1) ∧ w.cell? ⟨b, o + i * 2 + 1, none⟩ = some (.string l[i].2) := by
  obtain ⟨p, c, e, h1, h2, h3⟩ := h
  unfold maxLen at h2
  rcases h3 with rfl | ⟨b, o, hp, h3⟩
  · exact ⟨0, 0, c, p, e, h1, by omega, fun h => absurd h (by simp), fun i h => absurd h (by simp)⟩
  · refine ⟨b, o, c, p, e, h1, by omega, fun _ => hp, fun i hi => ?_⟩
    obtain ⟨vs, ⟨us, us', e1, e2, e3⟩, g2, g3⟩ := h3 i hi
    have e2' : us = [.string l[i].1] := e2
    have e3' : us' = [.string l[i].2] := e3
    subst e2' e3' e1
    exact ⟨by simpa using g3 0 _ rfl, by simpa using g3 1 _ rfl⟩
theorem SliceOf.take {α : Type} {E : Enc α} {k : Nat} {w : World} {l : List α} {p : Option Addr} {n c : Nat} (h : SliceOf E k w l (.slice p n c)) (i : Nat) (hi : i ≤ l.length) : SliceOf E k w (l.take i) (.slice p i c) := by
  obtain ⟨p', c', e, h1, h2, h3⟩ := h
  simp only [Value.slice.injEq] at e
  obtain ⟨rfl, _, rfl⟩ := e
  have hlen : (l.take i).length = i := by simp; omega
  refine ⟨p, c, by rw [hlen], by omega, h2, ?_⟩
  rcases h3 with rfl | ⟨b, o, hp, h3⟩
  · left; simp
  · right
    refine ⟨b, o, hp, fun j hj => ?_⟩
    rw [hlen] at hj
    have := h3 j (by omega)
    simpa using this

theorem alloc_cell_new (w : World) (A : Array Value) (t : TypeId) (n j : Nat) (hn : w.heap.size = n) : (w.alloc (.cells A t)).cell? ⟨n, j, none⟩ = A[j]? := by
  subst hn
  exact World.cell?_alloc_mark _ _ _ _ _
theorem alloc_cell_old (w : World) (o : Obj) (b j : Nat) (h : b < w.heap.size) : (w.alloc o).cell? ⟨b, j, none⟩ = w.cell? ⟨b, j, none⟩ := World.cell?_alloc_lt _ _ _ h
/-- One new block: what it holds. -/
theorem boxes1 {w W : World} {A : Array Value} {ta : TypeId} (h : w.alloc (.cells A ta) = W) :
    W.heap.size = w.heap.size + 1 ∧ Below w.heap.size w W ∧ (∀ j, W.cell? ⟨w.heap.size, j, none⟩ = A[j]?) := by
  subst h
  exact ⟨by simp, (Below.refl _ _).alloc (Nat.le_refl _) _, fun j => alloc_cell_new _ _ _ _ _ rfl⟩
/-- Two new blocks. -/
theorem boxes2 {w W : World} {A B : Array Value} {ta tb : TypeId} (h : (w.alloc (.cells A ta)).alloc (.cells B tb) = W) :
    W.heap.size = w.heap.size + 2 ∧ Below w.heap.size w W ∧ (∀ j, W.cell? ⟨w.heap.size, j, none⟩ = A[j]?) ∧ (∀ j, W.cell? ⟨w.heap.size + 1, j, none⟩ = B[j]?) := by
  subst h
  exact ⟨by simp, ((Below.refl _ _).alloc (Nat.le_refl _) _).alloc (by simp) _,
    fun j => by rw [alloc_cell_old _ _ _ _ (by simp), alloc_cell_new _ _ _ _ _ rfl], fun j => alloc_cell_new _ _ _ _ _ (by simp)⟩
/-- Three new blocks. -/
theorem boxes3 {w W : World} {A B C : Array Value} {ta tb tc : TypeId} (h : ((w.alloc (.cells A ta)).alloc (.cells B tb)).alloc (.cells C tc) = W) :
    W.heap.size = w.heap.size + 3 ∧ Below w.heap.size w W ∧ (∀ j, W.cell? ⟨w.heap.size, j, none⟩ = A[j]?) ∧ (∀ j, W.cell? ⟨w.heap.size + 1, j, none⟩ = B[j]?) ∧ (∀ j, W.cell? ⟨w.heap.size + 1 + 1, j, none⟩ = C[j]?) := by
  subst h
  exact ⟨by simp, (((Below.refl _ _).alloc (Nat.le_refl _) _).alloc (by simp) _).alloc (by simp; omega) _,
    fun j => by rw [alloc_cell_old _ _ _ _ (by simp; omega), alloc_cell_old _ _ _ _ (by simp), alloc_cell_new _ _ _ _ _ rfl],
    fun j => by rw [alloc_cell_old _ _ _ _ (by simp), alloc_cell_new _ _ _ _ _ (by simp)],
    fun j => alloc_cell_new _ _ _ _ _ (by simp)⟩
end Go.Proofs.YtcgihpfanfbonaaGreatDoor
namespace Go.Proofs.YtcgihpfanfbonaaGreatDoor
open Go.RowKit Go.WideShapes Go.ChangeShapes Go.ChangeAt
set_option linter.unusedVariables false
set_option linter.unusedSimpArgs false
set_option linter.unusedSectionVars false

theorem Tryz.own : ownKnob Tryz.prog.godebug = none := by kernel_rfl
theorem Tryz.laidOut : laidOutB Tryz.prog = true := by kernel_rfl

section
variable {H : Type} {enc : TypeId × Value → H} {P : Program}

theorem trodAll_stays (hl : laidOutB P = true) {W W' : World} (hb : Below W.heap.size W W') (sp : Nat → Bool) :
    ∀ (ts : List TypeId) (vs : List Value) (ds : List (DataW H)) (ps : List MemPlace), (ts.all fun t => P.readableRec t && decide (t < P.types.size)) = true →
      DataW.TrodAll enc P W 0 (fun _ => true) true ts vs ds ps → (∀ p ∈ ps, sp p.block = true) → (∀ p ∈ ps, p.block < W.heap.size) → DataW.TrodAll enc P W' 0 sp true ts vs ds ps
  | [], [], [], _, _, h, _, _ => h
  | [], [], _ :: _, _, _, h, _, _ => by cases h
  | [], _ :: _, _, _, _, h, _, _ => by cases h
  | _ :: _, [], _, _, _, h, _, _ => by cases h
  | _ :: _, _ :: _, [], _, _, h, _, _ => by cases h
  | t :: ts, v :: vs, d :: ds, ps, hr, h, hs, hlt => by
    obtain ⟨p, q, h1, h2, rfl⟩ := h
    simp only [List.all_cons, Bool.and_eq_true, decide_eq_true_eq] at hr
    exact ⟨p, q, WideElems.Trod_stays hl hr.1.1 hr.1.2 h1 (fun x hx => hb.same (hlt x (List.mem_append_left _ hx))) (fun x hx => hs x (List.mem_append_left _ hx)),
      trodAll_stays hl hb sp ts vs ds q hr.2 h2 (fun x hx => hs x (List.mem_append_right _ hx)) (fun x hx => hlt x (List.mem_append_right _ hx)), rfl⟩

/-- What a law says that answers true and leaves old memory as it was. -/
theorem law_post {f : Func} {s : ChangeSpec} {W W' : World} {args : Array Value} {ds gs : List (DataW H)} {before : List MemPlace} {tb : TypeId}
    (hl : laidOutB P = true) (hW : DataW.Whole enc P f.params.toList s.vars false W args.toList ds gs before) (hvars : s.vars = [])
    (hr : (f.params.toList.all fun t => P.readableRec t && decide (t < P.types.size)) = true)
    (hres : f.resultTypes = #[tb]) (htb : P.underlying tb = some .bool)
    (h1 : (s.fn H (ds ++ gs)).results = [.lit (.bool true)]) (h2 : (s.fn H (ds ++ gs)).args = ds) (h3 : (s.fn H (ds ++ gs)).vars = [])
    (hb : Below W.heap.size W W') : s.post enc P f false true false false W args (.bool true) W' := by
  have hW0 := hW
  obtain ⟨p, q, hA, hV, rfl, hfz, hnd⟩ := hW
  rw [hvars] at hV
  cases gs with
  | cons g gs => cases hV
  | nil =>
    obtain rfl : q = [] := hV
    have hlt : ∀ x ∈ p ++ [], x.block < W.heap.size := fun x hx => hW0.lt x hx
    have hold : ∀ x ∈ p ++ [], (fun b => decide (b < W.heap.size)) x.block = true := fun x hx => by simpa using hlt x hx
    have hT : ∀ (b : Nat) (sp : Nat → Bool) (hd : Bool), DataW.TrodAll enc P W' b sp hd f.resultTypes.toList (Value.resultList f.resultTypes.size (.bool true)) (s.fn H (ds ++ [])).results [] := fun b sp hd => by
      rw [h1, hres]
      exact trodAll_mk1 (shut_bool htb true)
    refine ⟨ds, [], p ++ [], [], p, [], hW0, hT _ _ _, ?_, ?_, World.keptBut_mono (fun x hx => ⟨hx, Or.inr (by simpa using hx)⟩) (hb.frame (· ∈ p ++ [])), fun h => by cases h⟩
    · rw [h2]
      exact trodAll_stays hl hb _ _ _ _ _ hr hA (fun x hx => hold x (by simpa using hx)) (fun x hx => hlt x (by simpa using hx))
    · rw [h3, hvars]
      rfl
end

/-- Whatever reads as data of a type lies so, is good, and its size is told. -/
def Rd {α : Type} (P : Program) (t : TypeId) (E : Enc α) (G : α → Prop) (m : α → Nat) : Prop :=
  ∀ (H : Type) (enc : TypeId × Value → H) (w : World) (fuel : Nat) (cs : List Value) (x : DataW H × List MemPlace), DataW.trod enc P w 0 (fun _ => true) true fuel t cs = some x → ∃ a : α, E w a cs ∧ G a ∧ m a ≤ Rows.uptoBulk x.1

section
variable {P : Program}

def szTxt (s : Txt) : Nat := s.size + 1
def szOne {α : Type} (_ : α) : Nat := 1
def szList {α : Type} (m : α → Nat) (l : List α) : Nat := (l.map m).sum + 1
def szBoth {α β : Type} (m : α → Nat) (n : β → Nat) (x : α × β) : Nat := m x.1 + n x.2
def okTxt (s : Txt) : Prop := s.size ≤ 9223372036854775807
def okNum (n : Int) : Prop := -9223372036854775808 ≤ n ∧ n ≤ 9223372036854775807
def okAny {α : Type} (_ : α) : Prop := True
def okList {α : Type} (G : α → Prop) (l : List α) : Prop := ∀ x ∈ l, G x
def okBoth {α β : Type} (G : α → Prop) (F : β → Prop) (x : α × β) : Prop := G x.1 ∧ F x.2
def truth : Enc Bool := One Value.bool

theorem sz_len {α : Type} {m : α → Nat} (h : ∀ x, 1 ≤ m x) (l : List α) : l.length ≤ szList m l := by
  unfold szList
  induction l with
  | nil => simp
  | cons x l ih => have := h x; simp at ih ⊢; omega
theorem szTxt_pos (s : Txt) : 1 ≤ szTxt s := by unfold szTxt; omega
theorem szPair_pos (x : Txt × Txt) : 1 ≤ szBoth szTxt szTxt x := by unfold szBoth szTxt; omega
theorem Rd.txt {t : TypeId} (ht : P.underlying t = some .string) : Rd P t txt okTxt szTxt := by
  intro H enc w fuel cs x h
  obtain ⟨s, rfl, rfl, hs⟩ := DataW.trod_string ht h
  exact ⟨s, rfl, by unfold okTxt; unfold maxLen at hs; omega, by simp only [Rows.uptoBulk, Array.length_toList]; exact Nat.le_refl _⟩
theorem Rd.num {t : TypeId} (ht : P.underlying t = some (.int .i64)) : Rd P t num okNum szOne := by
  intro H enc w fuel cs x h
  obtain ⟨n, rfl, rfl, hs⟩ := DataW.trod_int ht h
  exact ⟨n, rfl, by have := hs; simp [Lit.wf, IntKind.min, IntKind.max, IntKind.signed, IntKind.bits] at this; unfold okNum; omega, by simp [szOne, Rows.uptoBulk]⟩
theorem Rd.truth {t : TypeId} (ht : P.underlying t = some .bool) : Rd P t truth okAny szOne := by
  intro H enc w fuel cs x h
  obtain ⟨b, rfl, rfl⟩ := DataW.trod_bool ht h
  exact ⟨b, rfl, trivial, by simp [szOne, Rows.uptoBulk]⟩

theorem choose_list {α β : Type} {m : α → Nat} {n : β → Nat} : ∀ (es : List β) (Q : Nat → α → Prop), (∀ i (hi : i < es.length), ∃ a, Q i a ∧ m a ≤ n es[i]) →
    ∃ l : List α, l.length = es.length ∧ (∀ i (hi : i < l.length), Q i l[i]) ∧ (l.map m).sum ≤ (es.map n).sum
  | [], _, _ => ⟨[], rfl, fun i hi => absurd hi (by simp), by simp⟩
  | e :: es, Q, h => by
    obtain ⟨l, h1, h2, h3⟩ := choose_list es (fun i => Q (i + 1)) (fun i hi => by
      have := h (i + 1) (by simpa using hi)
      simpa using this)
    obtain ⟨a, g1, g2⟩ := h 0 (by simp)
    refine ⟨a :: l, by simp [h1], fun i hi => ?_, by simp at g2 ⊢; omega⟩
    cases i with
    | zero => exact g1
    | succ i => exact h2 i (by simpa using hi)
theorem bulkAll_sum {H : Type} (l : List (DataW H)) : Rows.uptoBulkAll l = (l.map Rows.uptoBulk).sum := by
  induction l with
  | nil => simp [Rows.uptoBulkAll]
  | cons x l ih => simp [Rows.uptoBulkAll, ih]

theorem Rd.slice {α : Type} {t e : TypeId} {k : Nat} {E : Enc α} {G : α → Prop} {m : α → Nat} (ht : P.underlying t = some (.slice e)) (hk : 0 < k) (hc : P.cellsOf e = k) (hE : Rd P e E G m) :
    Rd P t (Sl E k) (okList G) (szList m) := by
  intro H enc w fuel cs x h
  rcases DataW.trod_slice ht h with ⟨rfl, rfl⟩ | ⟨a, len, cap, elems, rest, n, rfl, rfl, rfl, hb, hl, hm, hlen, hel, hsp, hns⟩
  · exact ⟨[], ⟨_, rfl, none, 0, rfl, by simp, by unfold maxLen; omega, Or.inl rfl⟩, fun x hx => by simp at hx, by simp [szList, Rows.uptoBulk]⟩
  · rw [hc] at hel
    have each : ∀ i (hi : i < elems.length), ∃ a', (∃ vs, E w a' vs ∧ vs.length = k ∧ (∀ j, j < k → w.cell? ((a.add (i * k)).add j) = vs[j]?) ∧ G a') ∧ m a' ≤ Rows.uptoBulk elems[i].1 := by
      intro i hi
      have h1 := hel i (by omega)
      rw [List.getElem?_eq_getElem hi, Option.bind_eq_some_iff] at h1
      obtain ⟨vs, g1, g2⟩ := h1
      obtain ⟨_, g3, g4⟩ := World.cells?_some g1
      obtain ⟨a', e1, e2, e3⟩ := hE H enc w n vs _ g2
      exact ⟨a', ⟨vs, e1, g3, g4, e2⟩, e3⟩
    obtain ⟨l, l1, l2, l3⟩ := choose_list (n := fun y : DataW H × List MemPlace => Rows.uptoBulk y.1) elems _ each
    refine ⟨l, ⟨_, rfl, some a, cap, by rw [l1, hlen], by omega, hm, ?_⟩, ?_, ?_⟩
    · by_cases h0 : l = []
      · exact Or.inl h0
      · right
        have hpos : 0 < l.length := List.length_pos_iff.2 h0
        obtain ⟨b, o, spot⟩ := a
        obtain ⟨vs, e1, e2, e3, _⟩ := l2 0 hpos
        have hc0 := e3 0 hk
        have hspot : spot = none := by
          have : w.cell? ⟨b, o, spot⟩ = some (vs[0]'(by omega)) := by
            rw [← List.getElem?_eq_getElem (by omega), ← hc0]
            simp [Addr.add]
          simpa using World.cell?_spot this
        subst hspot
        refine ⟨b, o, rfl, fun i hi => ?_⟩
        obtain ⟨vs, e1, e2, e3, _⟩ := l2 i hi
        refine ⟨vs, e1, e2, fun j x hx => ?_⟩
        have hj : j < vs.length := (List.getElem?_eq_some_iff.1 hx).1
        have := e3 j (by omega)
        rw [hx, add_plain, add_plain] at this
        exact this
    · intro x hx
      obtain ⟨i, hi, rfl⟩ := List.getElem_of_mem hx
      obtain ⟨_, _, _, _, g⟩ := l2 i hi
      exact g
    · simp only [szList, Rows.uptoBulk, bulkAll_sum, List.map_map]
      have : (elems.map fun y : DataW H × List MemPlace => Rows.uptoBulk y.1) = elems.map (Rows.uptoBulk ∘ fun x => x.1) := rfl
      rw [this] at l3
      omega

theorem Rd.pair {α : Type} {t e : TypeId} {k : Nat} {E : Enc α} {G : α → Prop} {m : α → Nat} (ht : P.underlying t = some (.array 2 e)) (hc : P.cellsOf e = k) (hc2 : P.cellsOf t = 2 * k) (hE : Rd P e E G m) :
    Rd P t (Both E E) (okBoth G G) (szBoth m m) := by
  intro H enc w fuel cs x h
  obtain ⟨xs, n, rfl, rfl, h1, h2, h3⟩ := DataW.trod_array ht h
  match xs, h2, h3 with
  | [y0, y1], _, h3 =>
    have g0 := h3 0 (by omega)
    have g1 := h3 1 (by omega)
    obtain ⟨a, a1, a2, a3⟩ := hE H enc w n _ _ g0
    obtain ⟨b, b1, b2, b3⟩ := hE H enc w n _ _ g1
    refine ⟨(a, b), ⟨_, _, ?_, a1, b1⟩, ⟨a2, b2⟩, ?_⟩
    · rw [hc] at *
      simp only [Nat.zero_mul, List.drop_zero, Nat.one_mul]
      have : (cs.drop k).take k = cs.drop k := List.take_of_length_le (by simp; omega)
      rw [this, List.take_append_drop]
    · simp only [szBoth, Rows.uptoBulk, List.map_cons, List.map_nil, Rows.uptoBulkAll]
      omega

/-- The fields of a struct from one on, that lie from a place on. -/
def Rdf {α : Type} (P : Program) (fs : List Field) (o : Nat) (tot : Nat) (E : Enc α) (G : α → Prop) (m : α → Nat) : Prop :=
  ∀ (H : Type) (enc : TypeId × Value → H) (w : World) (n : Nat) (cs : List Value) (xs : List (DataW H × List MemPlace)), cs.length = tot → xs.length = fs.length →
    (∀ (i : Nat) (f : Field), fs[i]? = some f → DataW.trod enc P w 0 (fun _ => true) true n f.type ((cs.drop f.offset).take (P.cellsOf f.type)) = xs[i]?) →
    ∃ a : α, E w a (cs.drop o) ∧ G a ∧ m a ≤ (xs.map fun y => Rows.uptoBulk y.1).sum
theorem Rdf.last {α : Type} {f : Field} {o k : Nat} {t : TypeId} {E : Enc α} {G : α → Prop} {m : α → Nat} (ho : f.offset = o) (ht : f.type = t) (hc : P.cellsOf t = k) (hE : Rd P t E G m) : Rdf P [f] o (o + k) E G m := by
  subst ho ht
  intro H enc w n cs xs h1 h2 h3
  match xs, h2, h3 with
  | [y], _, h3 =>
    have g := h3 0 f rfl
    rw [hc, List.take_of_length_le (by simp; omega)] at g
    obtain ⟨a, a1, a2, a3⟩ := hE H enc w n _ _ g
    exact ⟨a, a1, a2, by simpa using a3⟩
theorem Rdf.cons {α β : Type} {f : Field} {fs : List Field} {o o' k tot : Nat} {t : TypeId} {E : Enc α} {G : α → Prop} {m : α → Nat} {F : Enc β} {G' : β → Prop} {m' : β → Nat}
    (ho : f.offset = o) (ht : f.type = t) (hc : P.cellsOf t = k) (ho' : o' = o + k) (hE : Rd P t E G m) (hF : Rdf P fs o' tot F G' m') : Rdf P (f :: fs) o tot (Both E F) (okBoth G G') (szBoth m m') := by
  subst ho ht ho'
  intro H enc w n cs xs h1 h2 h3
  cases xs with
  | nil => simp at h2
  | cons y xs =>
    have g := h3 0 f rfl
    rw [hc] at g
    obtain ⟨a, a1, a2, a3⟩ := hE H enc w n _ _ g
    obtain ⟨b, b1, b2, b3⟩ := hF H enc w n cs xs h1 (by simpa using h2) (fun i f' hf => by
      have := h3 (i + 1) f' (by simpa using hf)
      simpa using this)
    refine ⟨(a, b), ⟨_, _, ?_, a1, b1⟩, ⟨a2, b2⟩, by simp [szBoth] at a3 b3 ⊢; omega⟩
    rw [← List.drop_drop, List.take_append_drop]
theorem Rd.struct {α : Type} {t : TypeId} {fs : Array Field} {tot : Nat} {E : Enc α} {G : α → Prop} {m : α → Nat} (ht : P.underlying t = some (.struct fs)) (hc : P.cellsOf t = tot) (hF : Rdf P fs.toList 0 tot E G m) : Rd P t E G m := by
  intro H enc w fuel cs x h
  obtain ⟨xs, n, rfl, rfl, h1, h2, h3⟩ := DataW.trod_struct ht h
  obtain ⟨a, a1, a2, a3⟩ := hF H enc w n cs xs (by omega) (by simpa using h2) (fun i f hf => h3 i f (by simpa using hf))
  refine ⟨a, by simpa using a1, a2, ?_⟩
  simp only [Rows.uptoBulk, bulkAll_sum, List.map_map]
  have : (xs.map fun y : DataW H × List MemPlace => Rows.uptoBulk y.1) = xs.map (Rows.uptoBulk ∘ fun x => x.1) := rfl
  rw [this] at a3
  omega

/-- An argument, read. -/
theorem Rd.slice_arg {α : Type} {t : TypeId} {k : Nat} {E : Enc α} {G : List α → Prop} {m : List α → Nat} {H : Type} {enc : TypeId × Value → H} {w : World} {v : Value} {d : DataW H} {ps : List MemPlace}
    (hE : Rd P t (Sl E k) G m) (hv : ∃ p n c, v = .slice p n c) (h : DataW.Trod enc P w 0 (fun _ => true) true t v d ps) : ∃ l : List α, SliceOf E k w l v ∧ G l ∧ m l ≤ Rows.uptoBulk d := by
  obtain ⟨fuel, hf⟩ := h
  obtain ⟨a, ⟨u, h1, h2⟩, h3, h4⟩ := hE H enc w fuel _ _ hf
  obtain ⟨p, n, c, rfl⟩ := hv
  have : u = .slice p n c := by
    simp [Value.cells] at h1
    exact h1.symm
  subst this
  exact ⟨a, h2, h3, h4⟩
theorem Rd.txt_arg {t : TypeId} {H : Type} {enc : TypeId × Value → H} {w : World} {v : Value} {d : DataW H} {ps : List MemPlace} (ht : P.underlying t = some .string) (hv : ∃ s, v = .string s)
    (h : DataW.Trod enc P w 0 (fun _ => true) true t v d ps) : ∃ s : Txt, v = .string s ∧ okTxt s ∧ szTxt s ≤ Rows.uptoBulk d := by
  obtain ⟨fuel, hf⟩ := h
  obtain ⟨a, h1, h3, h4⟩ := Rd.txt ht H enc w fuel _ _ hf
  obtain ⟨s, rfl⟩ := hv
  have h1' : [Value.string s] = [Value.string a] := h1
  simp at h1'
  subst h1'
  exact ⟨s, rfl, h3, h4⟩
theorem Rd.num_arg {t : TypeId} {H : Type} {enc : TypeId × Value → H} {w : World} {v : Value} {d : DataW H} {ps : List MemPlace} (ht : P.underlying t = some (.int .i64)) (hv : ∃ n, v = .int .i64 n)
    (h : DataW.Trod enc P w 0 (fun _ => true) true t v d ps) : ∃ n : Int, v = .int .i64 n ∧ okNum n := by
  obtain ⟨fuel, hf⟩ := h
  obtain ⟨a, h1, h3, h4⟩ := Rd.num ht H enc w fuel _ _ hf
  obtain ⟨s, rfl⟩ := hv
  have h1' : [Value.int .i64 s] = [Value.int .i64 a] := h1
  simp at h1'
  subst h1'
  exact ⟨_, rfl, h3⟩
end
theorem rdStrs : Rd Tryz.prog 22 (Sl txt 1) (okList okTxt) (szList szTxt) := Rd.slice Tryz.underlying22 (by decide) (by kernel_rfl) (Rd.txt Tryz.underlying9)
theorem rdPrs : Rd Tryz.prog 23 (Sl (Both txt txt) 2) (okList (okBoth okTxt okTxt)) (szList (szBoth szTxt szTxt)) := Rd.slice Tryz.underlying23 (by decide) (by kernel_rfl) (Rd.pair (k := 1) Tryz.underlying99 (by kernel_rfl) (by kernel_rfl) (Rd.txt Tryz.underlying9))
end Go.Proofs.YtcgihpfanfbonaaGreatDoor
namespace Go.Proofs.YtcgihpfanfbonaaGreatDoor
open Go.RowKit Go.ChangeShapes Go.WideShapes Go.ChangeAt
set_option linter.unusedVariables false
section
variable {H : Type} {enc : TypeId × Value → H}
theorem handed_and_shaped {a : Assume} {C : Checked} {os : Os} {f : FuncId} {fn : Func} {s : ChangeSpec} {conds : List PathCond} {apart fresh handsOn again : Bool} {X : World → Array Value → Prop}
    (own : ownKnob C.prog.godebug = none) (started : os.Started) (noInit : C.prog.inits.idxOf? f = none) (hfn : C.prog.funcs[f]? = some fn)
    (witness : ∃ (w : World) (tape : Tape) (i : Input), w.os = os ∧ (w.forCall tape i).Shaped C.prog ∧ i.vars = [] ∧ Input.okWide C.prog (w.forCall tape i) .any w.heap.size f i ∧
      ((s.pre enc C.prog fn conds apart (w.forCall tape i).memory i.args ∧ X (w.forCall tape i).memory i.args) ∧ sizedMet enc C.prog fn (OpenSpec.ofChange s) apart (w.forCall tape i).memory i.args) ∧ a.holds C.prog (lone (Frame.enter C.prog f i.args .normal) [] (w.forCall tape i)))
    (contract : ∀ (W : World) (base : Nat) (args : Array Value) (ds gs : List (DataW H)) (before : List MemPlace),
      (∀ (j : Nat) t v, fn.params[j]? = some t → args[j]? = some v → Value.okWide C.prog W .any base t v) →
      DataW.Whole enc C.prog fn.params.toList s.vars apart W args.toList ds gs before →
      W.ShapedOpen C.prog →
      Calls C.prog f args W fun e W' => ∃ v, e = .returned v ∧ s.post enc C.prog fn apart fresh handsOn again W args v W') :
    ReturnsInHanded a C os f .any (fun w args => (s.pre enc C.prog fn conds apart w args ∧ X w args) ∧ sizedMet enc C.prog fn (OpenSpec.ofChange s) apart w args) (s.post enc C.prog fn apart fresh handsOn again) := by
  refine returnsInHanded_of_calls own started noInit witness ?_
  intro w tape i _ hsh _ hok hpre hholds
  obtain ⟨_, _, _, fn', hfn', _, _, _, _, hval⟩ := hok
  have e : fn' = fn := Option.some.inj (hfn'.symm.trans hfn)
  subst e
  obtain ⟨⟨⟨ds, gs, before, hw, hc⟩, hx⟩, hz⟩ := hpre
  have hw' := DataW.Whole.of_heap (w' := w.forCall tape i) (by rfl) hw
  refine (contract (w.forCall tape i) w.heap.size i.args ds gs before hval hw' hsh).mono fun e W' ⟨v, he, hp⟩ => ?_
  subst he
  exact ChangeSpec.post_blind hp
end
/-- The number that the library's variable holds. -/
theorem maxLen_cell {w : World} (h : w.ShapedOpen Tryz.prog) : ∃ m, w.cell? ⟨0, 0, none⟩ = some (.int .i64 m) :=
  cell_of_shapedOpen_int (P := Tryz.prog) (g := 0) (t := 3) (zero := #[.int .i64 0]) h (of_decide_eq_true (by kernel_rfl)) (by kernel_rfl) rfl (by kernel_rfl) (by kernel_rfl) Tryz.underlying3
end Go.Proofs.YtcgihpfanfbonaaGreatDoor
namespace Go.Proofs.YtcgihpfanfbonaaGreatDoor
open Go.RowKit
set_option linter.unusedVariables false
set_option linter.unusedSimpArgs false

theorem enters_at {P : Program} {f : FuncId} {fn : Func} {c : Code} (hf : P.funcs[f]? = some fn) (hname : (fn.name == "runtime.NumGoroutine") = false) (hb : fn.body = some c) (args : Array Value) (w : World) :
    (callFunc f args).run P w = .ok (.enter f args) w := by
  have h1 : fn.name ≠ "runtime.NumGoroutine" := by simpa using hname
  simp [callFunc, hf, h1, hb, mark]

theorem ret_bool {a b : Bool} (h : a = b) : Ending.returned (.bool a) = Ending.returned (.bool b) := by rw [h]
theorem ret_int {k : IntKind} {a b : Int} (h : a = b) : Ending.returned (.int k a) = Ending.returned (.int k b) := by rw [h]

def letterB (n : Int) : Bool := decide (97 ≤ n) && decide (n ≤ 122) || decide (65 ≤ n) && decide (n ≤ 90) || n == 95
def digitB (n : Int) : Bool := decide (48 ≤ n) && decide (n ≤ 57)

theorem letter_calls (n : Int) (w : World) :
    Calls Tryz.prog 127 #[.int .u8 n] w fun e w' => e = .returned (.bool (letterB n)) ∧ w = w' := by
  go_enter Tryz.func127, Tryz.ntmps127
  go_wp2
  all_goals go_ret
  all_goals exact ⟨ret_bool (by rw [Bool.eq_iff_iff]; simp [letterB] <;> omega), rfl⟩

theorem digit_calls (n : Int) (w : World) :
    Calls Tryz.prog 128 #[.int .u8 n] w fun e w' => e = .returned (.bool (digitB n)) ∧ w = w' := by
  go_enter Tryz.func128, Tryz.ntmps128
  go_wp2
  all_goals go_ret
  all_goals exact ⟨ret_bool (by rw [Bool.eq_iff_iff]; simp [digitB] <;> omega), rfl⟩

/-- Where in a list a text stands first; none: -1. -/
def idxOf (l : List Txt) (x : Txt) : Int := match l.idxOf? x with | some i => (i : Int) | none => -1

theorem idxOf_hit {l : List Txt} {x : Txt} {k : Nat} (hk : k < l.length) (h : l[k] = x) (hne : ∀ j, j < k → l[j]? ≠ some x) : idxOf l x = k := by
  unfold idxOf
  have : l.idxOf? x = some k := by
    rw [List.idxOf?, List.findIdx?_eq_some_iff_getElem]
    refine ⟨hk, by simp [h], fun j hj => ?_⟩
    have := hne j hj
    rw [List.getElem?_eq_getElem (by omega)] at this
    simpa using this
  rw [this]
theorem idxOf_miss {l : List Txt} {x : Txt} (hne : ∀ j, j < l.length → l[j]? ≠ some x) : idxOf l x = -1 := by
  unfold idxOf
  have : l.idxOf? x = none := by
    rw [List.idxOf?, List.findIdx?_eq_none_iff]
    intro y hy
    obtain ⟨j, hj, rfl⟩ := List.getElem_of_mem hy
    have := hne j hj
    rw [List.getElem?_eq_getElem hj] at this
    simpa using this
  rw [this]
theorem idxOf_mem (l : List Txt) (x : Txt) : decide (0 ≤ idxOf l x) = l.contains x := by
  unfold idxOf
  rw [Bool.eq_iff_iff]
  cases h : l.idxOf? x with
  | none =>
    rw [List.idxOf?, List.findIdx?_eq_none_iff] at h
    simp only [Int.reduceNeg, Int.neg_nonneg, decide_eq_true_eq, List.contains_iff_mem]
    constructor
    · intro h; omega
    · intro hm
      have := h x hm
      simp at this
  | some i =>
    rw [List.idxOf?, List.findIdx?_eq_some_iff_getElem] at h
    obtain ⟨hi, he, _⟩ := h
    simp only [beq_iff_eq] at he
    simp only [Int.natCast_nonneg, decide_true, List.contains_iff_mem, true_iff]
    exact he ▸ List.getElem_mem hi
theorem bytes_eq {x y : Txt} : (x.toList == y.toList) = true ↔ x = y := Lib.bytes_beq_iff x y

theorem index_calls (l : List Txt) (x : Txt) (v : Value) (w : World) (h : Strs w l v) :
    Calls Tryz.prog 52 #[v, .string x] w fun e w' => e = .returned (.int .i64 (idxOf l x)) ∧ w = w' := by
  obtain ⟨b, o, c, p, rfl, hlc, hc, hp, hcells⟩ := h.cells
  go_enter Tryz.func52, Tryz.ntmps52
  go_wp2
  go_loop [5, 8] (fun _ i => ∃ k : Nat, k ≤ l.length ∧ i = .int .i64 k ∧ ∀ j, j < k → l[j]? ≠ some x) (fun _ i => l.length - (intOf i).toNat)
  case atStart => exact ⟨0, Nat.zero_le _, rfl, fun j hj => absurd hj (Nat.not_lt_zero _)⟩
  case round =>
    obtain ⟨k, hk, rfl, hne⟩ := hrel
    by_cases hlt : k < l.length
    · have hcell := hcells k hlt
      obtain rfl := hp (by omega)
      clear hp hcells
      go_wp2
      · have he : (x.toList == (l[k]).toList) = true := by assumption
        go_ret
        exact ⟨ret_int (idxOf_hit hlt (bytes_eq.1 he).symm hne).symm, rfl⟩
      · have he : (x.toList == (l[k]).toList) = false := by assumption
        go_round
        case rel =>
          refine ⟨k + 1, by omega, by go_num, fun j hj => ?_⟩
          by_cases e : j = k
          · subst e
            rw [List.getElem?_eq_getElem hlt]
            intro h
            have := bytes_eq (x := x) (y := l[j])
            simp at h
            simp [h] at he
          · exact hne j (by omega)
        case measure => simp [intOf]; omega
    · go_wp2
      go_ret
      exact ⟨ret_int (idxOf_miss (fun j hj => hne j (by omega))).symm, rfl⟩

/-- Is a text in a list? (A word of its own, that the walk lets stand.) -/
def has (l : List Txt) (x : Txt) : Bool := l.contains x
theorem has_iff {l : List Txt} {x : Txt} : has l x = true ↔ x ∈ l := by simp [has]

theorem contains_calls (l : List Txt) (x : Txt) (v : Value) (w : World) (h : Strs w l v) :
    Calls Tryz.prog 16 #[v, .string x] w fun e w' => e = .returned (.bool (has l x)) ∧ w = w' := by
  go_enter Tryz.func16, Tryz.ntmps16
  go_wp2_with (go_at_call 52; refine (index_calls l x _ _ h).mono ?_; rintro e w' ⟨rfl, rfl⟩)
  go_ret
  exact ⟨ret_bool (idxOf_mem l x), rfl⟩
end Go.Proofs.YtcgihpfanfbonaaGreatDoor
namespace Go.Proofs.YtcgihpfanfbonaaGreatDoor
open Go.RowKit
set_option linter.unusedVariables false
set_option linter.unusedSimpArgs false

/-- The words of the language. -/
def wordsL : List Txt := [
  ⟨#[99, 104, 105, 101, 102]⟩,
  ⟨#[97, 99, 116, 115]⟩,
  ⟨#[105, 110]⟩,
  ⟨#[111, 117, 116]⟩,
  ⟨#[112, 114, 111, 99]⟩,
  ⟨#[98, 101, 103, 105, 110]⟩,
  ⟨#[102, 111, 114]⟩,
  ⟨#[118, 97, 114]⟩,
  ⟨#[105, 102]⟩,
  ⟨#[101, 108, 115, 101]⟩,
  ⟨#[119, 104, 105, 108, 101]⟩,
  ⟨#[115, 101, 110, 100]⟩,
  ⟨#[116, 97, 107, 101]⟩,
  ⟨#[100, 111]⟩,
  ⟨#[114, 101, 116, 117, 114, 110]⟩,
  ⟨#[114, 101, 108, 101, 97, 115, 101]⟩,
  ⟨#[116, 111]⟩,
  ⟨#[105, 110, 116]⟩,
  ⟨#[98, 111, 111, 108]⟩,
  ⟨#[116, 114, 117, 101]⟩,
  ⟨#[102, 97, 108, 115, 101]⟩]
def isWord (s : Txt) : Bool := has wordsL s

theorem strs_new (w : World) (l : List Txt) (e : TypeId) (hl : l.length ≤ 9223372036854775807) : Strs (w.alloc (.cells (l.map Value.string).toArray e)) l (.slice (some ⟨w.heap.size, 0, none⟩) l.length l.length) := by
  refine ⟨_, _, rfl, Nat.le_refl _, by unfold maxLen; omega, Or.inr ⟨_, _, rfl, fun i h => ⟨_, rfl, rfl, fun j x hx => ?_⟩⟩⟩
  rw [World.cell?_alloc_mark]
  match j, hx with
  | 0, hx =>
    simp at hx
    subst hx
    simp [h]

theorem words_calls (w : World) :
    Calls Tryz.prog 162 #[] w fun e w' => ∃ v, e = .returned v ∧ Strs w' wordsL v ∧ Below w.heap.size w w' := by
  go_enter Tryz.func162, Tryz.ntmps162
  go_wp2
  go_ret
  exact ⟨_, rfl, strs_new w wordsL 9 (by decide), (Below.refl _ _).alloc (Nat.le_refl _) _⟩

theorem word_calls (s : Txt) (w : World) :
    Calls Tryz.prog 126 #[.string s] w fun e w' => e = .returned (.bool (isWord s)) ∧ Below w.heap.size w w' := by
  go_enter Tryz.func126, Tryz.ntmps126
  go_wp2_with (first | (go_at_call 162; refine (words_calls _).mono ?_; rintro e w1 ⟨v, rfl, hv, hb⟩) | (go_at_call 16; refine (contains_calls wordsL s _ _ hv).mono ?_; rintro e w2 ⟨rfl, rfl⟩))
  go_ret
  exact ⟨rfl, hb⟩

def okAt (s : Txt) (i : Nat) : Bool := letterB (s.data.toList.getD i 0).toNat || (i != 0 && digitB (s.data.toList.getD i 0).toNat)
def isName (s : Txt) : Bool := decide (1 ≤ s.size) && decide (s.size ≤ 12) && !isWord s && (List.range s.size).all (okAt s)

theorem isName_long {s : Txt} (h : 12 < s.size) : isName s = false := by simp [isName]; omega
theorem isName_empty {s : Txt} (h : ¬ 1 ≤ s.size) : isName s = false := by simp [isName]; omega
theorem isName_word {s : Txt} (h : isWord s = true) : isName s = false := by simp [isName, h]
theorem isName_at {s : Txt} {k : Nat} (hk : k < s.size) (h : okAt s k = false) : isName s = false := by
  simp only [isName, Bool.and_eq_false_iff, List.all_eq_false, List.mem_range]
  exact Or.inr ⟨k, hk, by simp [h]⟩
theorem isName_all {s : Txt} (h1 : 1 ≤ s.size) (h2 : s.size ≤ 12) (h3 : isWord s = false) (h : ∀ j, j < s.size → okAt s j = true) : isName s = true := by
  simp only [isName, h1, h2, h3, decide_true, Bool.not_false, Bool.and_self, Bool.true_and, List.all_eq_true, List.mem_range]
  exact h
theorem byte_at (s : Txt) (k : Nat) (h : k < s.size) : s.data.toList.getD k 0 = s[k] := by
  simp [List.getD, h]; rfl

theorem all_snoc {p : Nat → Bool} {k : Nat} (h : ∀ j, j < k → p j = true) (hk : p k = true) : ∀ j, j < k + 1 → p j = true := by
  intro j hj
  by_cases e : j = k
  · exact e ▸ hk
  · exact h j (by omega)
theorem okAt_letter {s : Txt} {k : Nat} (h : k < s.size) (hl : letterB (s[k].toNat) = true) : okAt s k = true := by
  unfold okAt
  rw [byte_at s k h, hl]
  rfl
theorem okAt_digit {s : Txt} {k : Nat} (h : k < s.size) (h0 : ¬ k = 0) (hd : (!digitB (s[k].toNat)) = false) : okAt s k = true := by
  have hd' : digitB (s[k].toNat) = true := by simpa using hd
  unfold okAt
  rw [byte_at s k h, hd']
  simp [h0]
theorem okAt_first {s : Txt} {k : Nat} (h : k < s.size) (hl : ¬ letterB (s[k].toNat) = true) (h0 : k = 0) : okAt s k = false := by
  have hl' : letterB (s[k].toNat) = false := by simpa using hl
  unfold okAt
  rw [byte_at s k h, hl']
  simp [h0]
theorem okAt_none {s : Txt} {k : Nat} (h : k < s.size) (hl : ¬ letterB (s[k].toNat) = true) (h0 : ¬ k = 0) (hd : ((k : Int) == 0) = true ∨ (!digitB (s[k].toNat)) = true) : okAt s k = false := by
  have hl' : letterB (s[k].toNat) = false := by simpa using hl
  have hd' : digitB (s[k].toNat) = false := by
    rcases hd with hd | hd
    · exact absurd (by simpa using hd) h0
    · simpa using hd
  unfold okAt
  rw [byte_at s k h, hl', hd']
  simp

theorem name_calls (s : Txt) (w : World) :
    Calls Tryz.prog 87 #[.string s] w fun e w' => e = .returned (.bool (isName s)) ∧ Below w.heap.size w w' := by
  by_cases h1 : 1 ≤ s.size
  · by_cases h2 : s.size ≤ 12
    · have h3 : ¬ (s.size : Int) < 1 := by omega
      have h4 : ¬ 12 < (s.size : Int) := by omega
      cases hw : isWord s with
      | true =>
        go_enter Tryz.func87, Tryz.ntmps87
        go_wp2_with (go_at_call 126; refine (word_calls s _).mono ?_; rintro e w1 ⟨rfl, hb⟩)
        go_ret
        exact ⟨ret_bool (isName_word hw).symm, hb⟩
      | false =>
        go_enter Tryz.func87, Tryz.ntmps87
        go_wp2_with (go_at_call 126; refine (word_calls s _).mono ?_; rintro e w1 ⟨rfl, hb⟩)
        go_loop [3, 18] (fun _ i => ∃ k : Nat, k ≤ s.size ∧ i = .int .i64 k ∧ ∀ j, j < k → okAt s j = true) (fun _ i => s.size - (intOf i).toNat)
        case atStart => exact ⟨0, Nat.zero_le _, rfl, fun j hj => absurd hj (Nat.not_lt_zero _)⟩
        case round =>
          obtain ⟨k, hk, rfl, hall⟩ := hrel
          by_cases hlt : k < s.size
          · go_wp2_with (first | (go_at_call 127; refine (letter_calls _ _).mono ?_; rintro e w2 ⟨rfl, rfl⟩) | (go_at_call 128; refine (digit_calls _ _).mono ?_; rintro e w2 ⟨rfl, rfl⟩))
            · have hl : letterB (s[k].toNat) = true := by assumption
              go_round
              case rel => exact ⟨k + 1, by omega, by go_num, all_snoc hall (okAt_letter hlt hl)⟩
              case measure => simp [intOf]; omega
            · have hl : ¬ letterB (s[k].toNat) = true := by assumption
              have h0 : k = 0 := by assumption
              go_ret
              exact ⟨ret_bool (isName_at hlt (okAt_first hlt hl h0)).symm, hb⟩
            · have hl : ¬ letterB (s[k].toNat) = true := by assumption
              have h0 : ¬ k = 0 := by assumption
              have hd : ((k : Int) == 0) = true ∨ (!digitB (s[k].toNat)) = true := by assumption
              go_ret
              exact ⟨ret_bool (isName_at hlt (okAt_none hlt hl h0 hd)).symm, hb⟩
            · have hl : ¬ letterB (s[k].toNat) = true := by assumption
              have h0 : ¬ k = 0 := by assumption
              have hd : ((k : Int) == 0) = false ∧ (!digitB (s[k].toNat)) = false := by assumption
              go_round
              case rel => exact ⟨k + 1, by omega, by go_num, all_snoc hall (okAt_digit hlt h0 hd.2)⟩
              case measure => simp [intOf]; omega
          · go_wp2
            go_ret
            exact ⟨ret_bool (isName_all h1 h2 hw (fun j hj => hall j (by omega))).symm, hb⟩
    · have h3 : ¬ (s.size : Int) < 1 := by omega
      have h4 : 12 < (s.size : Int) := by omega
      go_enter Tryz.func87, Tryz.ntmps87
      go_wp2
      go_ret
      exact ⟨ret_bool (isName_long (by omega)).symm, Below.refl _ _⟩
  · have h3 : (s.size : Int) < 1 := by omega
    go_enter Tryz.func87, Tryz.ntmps87
    go_wp2
    go_ret
    exact ⟨ret_bool (isName_empty h1).symm, Below.refl _ _⟩
end Go.Proofs.YtcgihpfanfbonaaGreatDoor
namespace Go.Proofs.YtcgihpfanfbonaaGreatDoor
open Go.RowKit
set_option linter.unusedVariables false
set_option linter.unusedSimpArgs false

/-- What is wrong with the chief at a place. -/
def nameErr (l : List Txt) (i : Nat) : Int := if isName (l.getD i ByteArray.empty) then (if has (l.take i) (l.getD i ByteArray.empty) then 6 else 0) else 4
/-- What is wrong with the first one with whom something is. -/
def errNames (l : List Txt) : Int := ((List.range l.length).find? fun i => nameErr l i != 0).elim 0 (nameErr l)
def actOk (l : List Txt) (a : Txt × Txt) : Bool := has l a.1 && has l a.2
def checkC (l : List Txt) (acts : List (Txt × Txt)) : Int :=
  if 6 < l.length ∨ 10 < acts.length then 2 else if errNames l ≠ 0 then errNames l else if acts.all (actOk l) then 0 else 5

theorem errNames_at {l : List Txt} {k : Nat} (hk : k < l.length) (h : nameErr l k ≠ 0) (hne : ∀ j, j < k → nameErr l j = 0) : errNames l = nameErr l k := by
  unfold errNames
  have : (List.range l.length).find? (fun i => nameErr l i != 0) = some k := by
    rw [List.find?_range_eq_some]
    refine ⟨by simpa using h, by simpa using hk, fun j hj => by simp [hne j hj]⟩
  rw [this]; rfl
theorem errNames_none {l : List Txt} (hne : ∀ j, j < l.length → nameErr l j = 0) : errNames l = 0 := by
  unfold errNames
  have : (List.range l.length).find? (fun i => nameErr l i != 0) = none := by
    rw [List.find?_range_eq_none]
    intro j hj; simp [hne j hj]
  rw [this]; rfl
theorem getD_at {l : List Txt} {k : Nat} (hk : k < l.length) : l.getD k ByteArray.empty = l[k] := by simp [List.getD, hk]

theorem checkC_name {l : List Txt} {acts : List (Txt × Txt)} (h1 : l.length ≤ 6) (h2 : acts.length ≤ 10) {k : Nat} (hk : k < l.length) (hne : ∀ j, j < k → nameErr l j = 0) {n : Int} (h : nameErr l k = n) (hn : n ≠ 0) : checkC l acts = n := by
  have := errNames_at hk (by omega) hne
  unfold checkC
  rw [if_neg (by omega), if_pos (by omega)]
  omega
theorem checkC_acts {l : List Txt} {acts : List (Txt × Txt)} (h1 : l.length ≤ 6) (h2 : acts.length ≤ 10) (h : errNames l = 0) {k : Nat} (hk : k < acts.length) (ha : actOk l acts[k] = false) : checkC l acts = 5 := by
  unfold checkC
  rw [if_neg (by omega), if_neg (by omega), if_neg]
  intro hall
  rw [List.all_eq_true.1 hall _ (List.getElem_mem hk)] at ha
  cases ha
theorem checkC_ok {l : List Txt} {acts : List (Txt × Txt)} (h1 : l.length ≤ 6) (h2 : acts.length ≤ 10) (h : errNames l = 0) (ha : ∀ j (hj : j < acts.length), actOk l acts[j] = true) : checkC l acts = 0 := by
  unfold checkC
  rw [if_neg (by omega), if_neg (by omega), if_pos]
  rw [List.all_eq_true]
  intro x hx
  obtain ⟨j, hj, rfl⟩ := List.getElem_of_mem hx
  exact ha j hj
theorem checkC_many {l : List Txt} {acts : List (Txt × Txt)} (h : 6 < l.length ∨ 10 < acts.length) : checkC l acts = 2 := by
  unfold checkC; rw [if_pos h]

set_option maxHeartbeats 400000 in
theorem check_calls (l : List Txt) (acts : List (Txt × Txt)) (v u : Value) (w : World) (hv : Strs w l v) (hu : Prs w acts u) :
    Calls Tryz.prog 58 #[v, u] w fun e w' => e = .returned (.int .i64 (checkC l acts)) ∧ Below w.heap.size w w' := by
  have hv0 := hv
  obtain ⟨b, o, c, p, rfl, hlc, hc, hp, hcells⟩ := hv.cells
  obtain ⟨b2, o2, c2, p2, rfl, hlc2, hc2, hp2, hcells2⟩ := hu.cells
  clear hv hu
  by_cases h1 : l.length ≤ 6
  · by_cases h2 : acts.length ≤ 10
    · have h1' : ¬ 6 < (l.length : Int) := by omega
      have h2' : ¬ 10 < (acts.length : Int) := by omega
      go_enter Tryz.func58, Tryz.ntmps58
      go_wp2
      go_loopw [5, 6, 21] (fun _ _ i wr => ∃ k : Nat, k ≤ l.length ∧ i = .int .i64 k ∧ Below w.heap.size w wr ∧ Hid (∀ j, j < k → nameErr l j = 0)) (fun _ _ i _ => l.length - (intOf i).toNat)
      case atStart => exact ⟨0, Nat.zero_le _, rfl, Below.refl _ _, fun j hj => absurd hj (Nat.not_lt_zero _)⟩
      case round =>
        obtain ⟨k, hk, rfl, hb, HN⟩ := hrel
        by_cases hlt : k < l.length
        · have hcell0 := hcells k hlt
          have hcell : wr.cell? ⟨b, o + k, none⟩ = some (.string l[k]) := (hb.cell (cell_lt hcell0)).trans hcell0
          have hkc : k ≤ c := by omega
          obtain rfl := hp (by omega)
          have HT : Hid (∀ w', Below w.heap.size w w' → Strs w' (l.take k) (.slice (some ⟨b, o, none⟩) k c)) := fun w' hb' => (hv0.stays (keeps_of_below hb')).take k hk
          clear hp hp2 hcells hcells2 hcell0
          cases hnm : isName l[k] with
          | false =>
            have HX : Hid (checkC l acts = 4) := checkC_name h1 h2 hlt HN.out (by unfold nameErr; rw [getD_at hlt, hnm]; rfl) (by omega)
            go_wp2_with (go_at_call 87; refine (name_calls _ _).mono ?_; rintro e w1 ⟨rfl, hb1⟩)
            go_ret
            exact ⟨ret_int HX.out.symm, hb.trans (hb1.mono hb.size)⟩
          | true =>
            cases hh : has (l.take k) l[k] with
            | true =>
              have HX : Hid (checkC l acts = 6) := checkC_name h1 h2 hlt HN.out (by unfold nameErr; rw [getD_at hlt, hnm, hh]; rfl) (by omega)
              go_wp2_with (first | (go_at_call 87; refine (name_calls _ _).mono ?_; rintro e w1 ⟨rfl, hb1⟩) | (go_at_call 16; refine (contains_calls (l.take k) _ _ _ (HT.out _ (hb.trans (hb1.mono hb.size)))).mono ?_; rintro e w2 ⟨rfl, rfl⟩))
              go_ret
              exact ⟨ret_int HX.out.symm, hb.trans (hb1.mono hb.size)⟩
            | false =>
              have HX : Hid (nameErr l k = 0) := by show nameErr l k = 0; unfold nameErr; rw [getD_at hlt, hnm, hh]; rfl
              go_wp2_with (first | (go_at_call 87; refine (name_calls _ _).mono ?_; rintro e w1 ⟨rfl, hb1⟩) | (go_at_call 16; refine (contains_calls (l.take k) _ _ _ (HT.out _ (hb.trans (hb1.mono hb.size)))).mono ?_; rintro e w2 ⟨rfl, rfl⟩))
              go_roundw
              case rel =>
                refine ⟨k + 1, by omega, by go_num, hb.trans (hb1.mono hb.size), fun j hj => ?_⟩
                by_cases e : j = k
                · subst e; exact HX.out
                · exact HN.out j (by omega)
              case measure => simp [intOf]; omega
        · have HE : Hid (errNames l = 0) := errNames_none fun j hj => HN.out j (by omega)
          clear hp hcells HN
          go_wp2
          go_loopw [10, 37] (fun _ i wr => ∃ k : Nat, k ≤ acts.length ∧ i = .int .i64 k ∧ Below w.heap.size w wr ∧ Hid (∀ j (hj : j < acts.length), j < k → actOk l acts[j] = true)) (fun _ i _ => acts.length - (intOf i).toNat)
          case atStart => exact ⟨0, Nat.zero_le _, rfl, hb, fun j _ hj => absurd hj (Nat.not_lt_zero _)⟩
          case round =>
            obtain ⟨k2, hk2, rfl, hb2, HN⟩ := hrel
            by_cases hlt2 : k2 < acts.length
            · obtain ⟨hc1, hc2'⟩ := hcells2 k2 hlt2
              have hcell1 : wr.cell? ⟨b2, o2 + k2 * 2, none⟩ = some (.string acts[k2].1) := (hb2.cell (cell_lt hc1)).trans hc1
              have hcell2 : wr.cell? ⟨b2, o2 + k2 * 2 + 1, none⟩ = some (.string acts[k2].2) := (hb2.cell (cell_lt hc2')).trans hc2'
              obtain rfl := hp2 (by omega)
              clear hp2 hcells2 hc1 hc2'
              go_wp2
              have i0 : ∀ x y (w : World), (Instr.index 99 (.agg #[x, y]) (.int .i64 0)).run Tryz.prog w = .ok x w := fun _ _ _ => by kernel_rfl
              have i1 : ∀ x y (w : World), (Instr.index 99 (.agg #[x, y]) (.int .i64 1)).run Tryz.prog w = .ok y w := fun _ _ _ => by kernel_rfl
              have hS : Strs (wr.alloc (.cells #[.string acts[k2].1, .string acts[k2].2] 99)) l (.slice p l.length c) := hv0.stays (keeps_of_below (hb2.alloc hb2.size _))
              go_loop [10, 42] (fun _ i => ∃ m : Nat, m ≤ 2 ∧ i = .int .i64 m ∧ Hid ((0 < m → has l acts[k2].1 = true) ∧ (1 < m → has l acts[k2].2 = true))) (fun _ i => 2 - (intOf i).toNat)
              case atStart => exact ⟨0, by omega, rfl, fun h => absurd h (by omega), fun h => absurd h (by omega)⟩
              case round =>
                obtain ⟨m, hm, rfl, HM⟩ := hrel
                match m, hm, HM with
                | 0, _, HM =>
                  cases hh : has l acts[k2].1 with
                  | true =>
                    go_wp2_with (go_at_call 16; refine (contains_calls l _ _ _ hS).mono ?_; rintro e w2 ⟨rfl, rfl⟩)
                    go_round
                    case rel => exact ⟨1, by omega, by go_num, fun _ => by first | trivial | exact hh, fun h => absurd h (by omega)⟩
                    case measure => simp [intOf]
                  | false =>
                    have HX : Hid (checkC l acts = 5) := checkC_acts h1 h2 HE.out hlt2 (by unfold actOk; rw [hh]; rfl)
                    go_wp2_with (go_at_call 16; refine (contains_calls l _ _ _ hS).mono ?_; rintro e w2 ⟨rfl, rfl⟩)
                    go_ret
                    exact ⟨ret_int HX.out.symm, hb2.alloc hb2.size _⟩
                | 1, _, HM =>
                  cases hh : has l acts[k2].2 with
                  | true =>
                    go_wp2_with (go_at_call 16; refine (contains_calls l _ _ _ hS).mono ?_; rintro e w2 ⟨rfl, rfl⟩)
                    go_round
                    case rel => exact ⟨2, by omega, by go_num, fun _ => HM.out.1 (by omega), fun _ => by first | trivial | exact hh⟩
                    case measure => simp [intOf]
                  | false =>
                    have HX : Hid (checkC l acts = 5) := checkC_acts h1 h2 HE.out hlt2 (by unfold actOk; rw [hh]; simp)
                    go_wp2_with (go_at_call 16; refine (contains_calls l _ _ _ hS).mono ?_; rintro e w2 ⟨rfl, rfl⟩)
                    go_ret
                    exact ⟨ret_int HX.out.symm, hb2.alloc hb2.size _⟩
                | 2, _, HM =>
                  have HA : Hid (actOk l acts[k2] = true) := by show actOk l acts[k2] = true; unfold actOk; rw [HM.out.1 (by omega), HM.out.2 (by omega)]; rfl
                  go_wp2
                  go_roundw
                  case rel =>
                    refine ⟨k2 + 1, by omega, by go_num, hb2.alloc hb2.size _, fun j hj hj' => ?_⟩
                    by_cases e : j = k2
                    · subst e; exact HA.out
                    · exact HN.out j hj (by omega)
                  case measure => simp [intOf]; omega
            · have HX : Hid (checkC l acts = 0) := checkC_ok h1 h2 HE.out (fun j hj => HN.out j hj (by omega))
              clear hp2 hcells2
              go_wp2
              go_ret
              exact ⟨ret_int HX.out.symm, hb2⟩
    · have h2' : 10 < (acts.length : Int) := by omega
      have h1' : ¬ 6 < (l.length : Int) := by omega
      have HX : Hid (checkC l acts = 2) := checkC_many (Or.inr (by omega))
      go_enter Tryz.func58, Tryz.ntmps58
      go_wp2
      go_ret
      exact ⟨ret_int HX.out.symm, Below.refl _ _⟩
  · have h1' : 6 < (l.length : Int) := by omega
    have HX : Hid (checkC l acts = 2) := checkC_many (Or.inl (by omega))
    go_enter Tryz.func58, Tryz.ntmps58
    go_wp2
    go_ret
    exact ⟨ret_int HX.out.symm, Below.refl _ _⟩
end Go.Proofs.YtcgihpfanfbonaaGreatDoor
