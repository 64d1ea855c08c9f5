/-
  Data as they lie in memory: texts, pairs, policies, and slices of what lies in rows of cells; what holds of them in one world holds in each later one in which old memory stands. The frame of a law's row: arguments read as data of this seat's own; what a law that answers true, and leaves old memory as it was, says. The wrap of a row that lists variables, the world's shape kept. The wrap of a row that lists variables, the reach handed on: how much memory what came in takes up. The wrap of a row that lists variables, the reach and what the variables hold handed on. Labels as they lie in memory. Letters, figures, words, names: what the small functions of package scan compute. Words and names: scan.words, scan.Word, scan.Name; slices.IndexFunc and ContainsFunc over texts. A text's bytes. slices.IndexFunc and slices.ContainsFunc over texts, by whatever a function value tells of each. scan.run, the function values of scan.Scan, scan.signs. Data laid one behind the other in a row of cells; appending a slice of data, nil or not, onto a row of the call's own. A region that draws its order, whose first operations leave the world as it is, walked once by the cheap steps; then its last ones, in their order. What scan.Scan computes; the memory of its loop. Plain law: what reading a text's tokens comes to: names, labels, expressions; and how an expression lies in memory. What a call owns, as data: at a seat without package chief (there XChiefB has these). What of the labels' contracts stands where nobody asks what may go where: a label's policies looked through. Texts put together: strings.Join. Texts put together: plain laws of joinT. label.Print: a label's text. Plain law of trees: the form of an expression, and its text. The reader of tokens in memory: one block that is turned; all else stands. Equal lists, element by element; worlds but for answers drawn. The reader's small steps. What the reader gathers in a list: the state of the loop; expressions and policies as values.
-/
import Derived.WalkKit
import Derived.Lib.Hide
import Derived.Lib.SlicesS
import Derived.Test.YtmepcmnpmhhiiaaGreatDoorRows
import Derived.ProofKit
import Derived.OpenShut
import Derived.Below
import Derived.ChangeSame
import Derived.Test.YtmepcmnpmhhiiaaGreatDoorTie
import Derived.Test.YtmepcmnpmhhiiaaGreatDoorCards
import Derived.HandedShaped
import Derived.Shelf.Vars
import Derived.Lay
import Derived.LaidOnce
import Derived.SevenTiedAt
import Derived.SizedLaws
import Derived.Lib.LaidTab
import Derived.Lib.Space
import Derived.Stop.LaidErr
import Derived.MakeChecks
import Derived.Test.YtmepcmnpmhhiiaaGreatDoorProg
import Derived.Deep.QuietTactic
import Derived.BigQuiet
import Derived.Test.YtmepcmnpmhhiiaaGreatDoorShelf
import Derived.Laws.AppendOwn
import Derived.Laws.OwnMore
import Derived.Lib.AppendZeros
import Derived.StillTailTactics
import Derived.OneCell
import Derived.Maps.AppendAt
import Derived.Maps.OwnSet
import Derived.WalkSmall
import Derived.Deep.LoopGhost
namespace Go.Proofs.YtmepcmnpmhhiiaaGreatDoor
open Go.RowKit
set_option linter.unusedVariables false
set_option linter.unusedSimpArgs false

instance instLawfulText : LawfulBEq ByteArray where
  eq_of_beq {a b} h := by
    cases a; cases b
    have h' : (_ == _) = true := h
    congr 1
    exact eq_of_beq h'
  rfl {a} := by
    cases a with
    | mk d => show (d == d) = true; exact beq_self_eq_true d

/-- Old memory stands. -/
def Keeps (w w' : World) : Prop := w.heap.size ≤ w'.heap.size ∧ ∀ b o v, w.cell? ⟨b, o, none⟩ = some v → w'.cell? ⟨b, o, none⟩ = some v

theorem Keeps.refl (w : World) : Keeps w w := ⟨Nat.le_refl _, fun _ _ _ h => h⟩
theorem cell_lt {w : World} {b o : Nat} {v : Value} (h : w.cell? ⟨b, o, none⟩ = some v) : b < w.heap.size := by
  apply Decidable.byContradiction
  intro hb
  have : w.heap[b]? = none := by simp; omega
  simp [World.cell?, this] at h
theorem Keeps.trans {a b c : World} (h : Keeps a b) (k : Keeps b c) : Keeps a c :=
  ⟨Nat.le_trans h.1 k.1, fun i o v hi => k.2 i o v (h.2 i o v hi)⟩
theorem keeps_of_below {w w' : World} (h : Below w.heap.size w w') : Keeps w w' :=
  ⟨h.size, fun b o v hv => (h.cell (p := ⟨b, o, none⟩) (cell_lt hv)).trans hv⟩

/-- How a datum lies in a row of cells, in a world. -/
abbrev Enc (α : Type) := World → α → List Value → Prop
/-- It stays where old memory stands. -/
def Stays {α : Type} (E : Enc α) : Prop := ∀ w w' x vs, Keeps w w' → E w x vs → E w' x vs

/-- A slice of data, each of `k` cells. -/
def SliceOf {α : Type} (E : Enc α) (k : Nat) (w : World) (l : List α) (v : Value) : Prop :=
  ∃ p c, v = .slice p l.length c ∧ l.length ≤ c ∧ c ≤ maxLen ∧
    (l = [] ∨ ∃ b o, p = some ⟨b, o, none⟩ ∧ ∀ (i : Nat) (h : i < l.length), ∃ vs, E w l[i] vs ∧ vs.length = k ∧ ∀ j x, vs[j]? = some x → w.cell? ⟨b, o + i * k + j, none⟩ = some x)

theorem SliceOf.stays {α : Type} {E : Enc α} {k : Nat} (hE : Stays E) {w w' : World} (hk : Keeps w w') {l : List α} {v : Value} (h : SliceOf E k w l v) : SliceOf E k w' l v := by
  obtain ⟨p, c, e, h1, h2, h3⟩ := h
  refine ⟨p, c, e, h1, h2, ?_⟩
  rcases h3 with h3 | ⟨b, o, hp, h3⟩
  · exact Or.inl h3
  · refine Or.inr ⟨b, o, hp, fun i hi => ?_⟩
    obtain ⟨vs, g1, g2, g3⟩ := h3 i hi
    refine ⟨vs, hE _ _ _ _ hk g1, g2, fun j x hx => ?_⟩
    exact hk.2 b _ _ (g3 j x hx)

/-- One cell that holds a value told by the datum. -/
def One {α : Type} (f : α → Value) : Enc α := fun _ x vs => vs = [f x]
theorem One.stays {α : Type} (f : α → Value) : Stays (One f) := fun _ _ _ _ _ h => h
/-- One cell that holds a slice. -/
def Sl {α : Type} (E : Enc α) (k : Nat) : Enc (List α) := fun w l vs => ∃ v, vs = [v] ∧ SliceOf E k w l v
theorem Sl.stays {α : Type} {E : Enc α} (hE : Stays E) (k : Nat) : Stays (Sl E k) := fun _ _ _ _ hk ⟨v, e, h⟩ => ⟨v, e, h.stays hE hk⟩
/-- Two data, one behind the other. -/
def Both {α β : Type} (E : Enc α) (F : Enc β) : Enc (α × β) := fun w x vs => ∃ us us', vs = us ++ us' ∧ E w x.1 us ∧ F w x.2 us'
theorem Both.stays {α β : Type} {E : Enc α} {F : Enc β} (hE : Stays E) (hF : Stays F) : Stays (Both E F) :=
  fun _ _ _ _ hk ⟨us, us', e, h1, h2⟩ => ⟨us, us', e, hE _ _ _ _ hk h1, hF _ _ _ _ hk h2⟩

abbrev Txt := ByteArray
def txt : Enc Txt := One Value.string
def num : Enc Int := One (Value.int .i64)
/-- `[]string`. -/
abbrev Strs (w : World) (l : List Txt) (v : Value) : Prop := SliceOf txt 1 w l v
/-- `[][2]string`. -/
abbrev Prs (w : World) (l : List (Txt × Txt)) (v : Value) : Prop := SliceOf (Both txt txt) 2 w l v

theorem Strs.stays {w w' : World} (hk : Keeps w w') {l : List Txt} {v : Value} (h : Strs w l v) : Strs w' l v := SliceOf.stays (One.stays _) hk h
theorem Prs.stays {w w' : World} (hk : Keeps w w') {l : List (Txt × Txt)} {v : Value} (h : Prs w l v) : Prs w' l v := SliceOf.stays (Both.stays (One.stays _) (One.stays _)) hk h

/-- A slice of texts, opened: its length, its room; its cells. -/
theorem Strs.cells {w : World} {l : List Txt} {v : Value} (h : Strs w l v) :
    ∃ b o c p, v = .slice p l.length c ∧ l.length ≤ c ∧ c ≤ 9223372036854775807 ∧ (0 < l.length → p = some ⟨b, o, none⟩) ∧ ∀ (i : Nat) (h : i < l.length), w.cell? ⟨b, o + i, none⟩ = some (.string l[i]) := by
  obtain ⟨p, c, e, h1, h2, h3⟩ := h
  unfold maxLen at h2
  rcases h3 with rfl | ⟨b, o, hp, h3⟩
  · exact ⟨0, 0, c, p, e, h1, by omega, fun h => absurd h (by simp), fun i h => absurd h (by simp)⟩
  · refine ⟨b, o, c, p, e, h1, by omega, fun _ => hp, fun i hi => ?_⟩
    obtain ⟨vs, g1, g2, g3⟩ := h3 i hi
    have := g3 0 (.string l[i]) (by rw [g1]; rfl)
    simpa using this
/-- A slice of pairs of texts, opened. -/
theorem Prs.cells {w : World} {l : List (Txt × Txt)} {v : Value} (h : Prs w l v) :
    ∃ b o c p, v = .slice p l.length c ∧ l.length ≤ c ∧ c ≤ 9223372036854775807 ∧ (0 < l.length → p = some ⟨b, o, none⟩) ∧
      ∀ (i : Nat) (h : i < l.length), w.cell? ⟨b, o + i * 2, none⟩ = some (.string l[i].1) ∧ w.cell? ⟨b, o + i * 2 + 1, none⟩ = some (.string l[i].2) := by
  obtain ⟨p, c, e, h1, h2, h3⟩ := h
  unfold maxLen at h2
  rcases h3 with rfl | ⟨b, o, hp, h3⟩
  · exact ⟨0, 0, c, p, e, h1, by omega, fun h => absurd h (by simp), fun i h => absurd h (by simp)⟩
  · refine ⟨b, o, c, p, e, h1, by omega, fun _ => hp, fun i hi => ?_⟩
    obtain ⟨vs, ⟨us, us', e1, e2, e3⟩, g2, g3⟩ := h3 i hi
    have e2' : us = [.string l[i].1] := e2
    have e3' : us' = [.string l[i].2] := e3
    subst e2' e3' e1
    exact ⟨by simpa using g3 0 _ rfl, by simpa using g3 1 _ rfl⟩
theorem SliceOf.take {α : Type} {E : Enc α} {k : Nat} {w : World} {l : List α} {p : Option Addr} {n c : Nat} (h : SliceOf E k w l (.slice p n c)) (i : Nat) (hi : i ≤ l.length) : SliceOf E k w (l.take i) (.slice p i c) := by
  obtain ⟨p', c', e, h1, h2, h3⟩ := h
  simp only [Value.slice.injEq] at e
  obtain ⟨rfl, _, rfl⟩ := e
  have hlen : (l.take i).length = i := by simp; omega
  refine ⟨p, c, by rw [hlen], by omega, h2, ?_⟩
  rcases h3 with rfl | ⟨b, o, hp, h3⟩
  · left; simp
  · right
    refine ⟨b, o, hp, fun j hj => ?_⟩
    rw [hlen] at hj
    have := h3 j (by omega)
    simpa using this

theorem alloc_cell_new (w : World) (A : Array Value) (t : TypeId) (n j : Nat) (hn : w.heap.size = n) : (w.alloc (.cells A t)).cell? ⟨n, j, none⟩ = A[j]? := by
  subst hn
  exact World.cell?_alloc_mark _ _ _ _ _
theorem alloc_cell_old (w : World) (o : Obj) (b j : Nat) (h : b < w.heap.size) : (w.alloc o).cell? ⟨b, j, none⟩ = w.cell? ⟨b, j, none⟩ := World.cell?_alloc_lt _ _ _ h
/-- One new block: what it holds. -/
theorem boxes1 {w W : World} {A : Array Value} {ta : TypeId} (h : w.alloc (.cells A ta) = W) :
    W.heap.size = w.heap.size + 1 ∧ Below w.heap.size w W ∧ (∀ j, W.cell? ⟨w.heap.size, j, none⟩ = A[j]?) := by
  subst h
  exact ⟨by simp, (Below.refl _ _).alloc (Nat.le_refl _) _, fun j => alloc_cell_new _ _ _ _ _ rfl⟩
/-- Two new blocks. -/
theorem boxes2 {w W : World} {A B : Array Value} {ta tb : TypeId} (h : (w.alloc (.cells A ta)).alloc (.cells B tb) = W) :
    W.heap.size = w.heap.size + 2 ∧ Below w.heap.size w W ∧ (∀ j, W.cell? ⟨w.heap.size, j, none⟩ = A[j]?) ∧ (∀ j, W.cell? ⟨w.heap.size + 1, j, none⟩ = B[j]?) := by
  subst h
  exact ⟨by simp, ((Below.refl _ _).alloc (Nat.le_refl _) _).alloc (by simp) _,
    fun j => by rw [alloc_cell_old _ _ _ _ (by simp), alloc_cell_new _ _ _ _ _ rfl], fun j => alloc_cell_new _ _ _ _ _ (by simp)⟩
/-- Three new blocks. -/
theorem boxes3 {w W : World} {A B C : Array Value} {ta tb tc : TypeId} (h : ((w.alloc (.cells A ta)).alloc (.cells B tb)).alloc (.cells C tc) = W) :
    W.heap.size = w.heap.size + 3 ∧ Below w.heap.size w W ∧ (∀ j, W.cell? ⟨w.heap.size, j, none⟩ = A[j]?) ∧ (∀ j, W.cell? ⟨w.heap.size + 1, j, none⟩ = B[j]?) ∧ (∀ j, W.cell? ⟨w.heap.size + 1 + 1, j, none⟩ = C[j]?) := by
  subst h
  exact ⟨by simp, (((Below.refl _ _).alloc (Nat.le_refl _) _).alloc (by simp) _).alloc (by simp; omega) _,
    fun j => by rw [alloc_cell_old _ _ _ _ (by simp; omega), alloc_cell_old _ _ _ _ (by simp), alloc_cell_new _ _ _ _ _ rfl],
    fun j => by rw [alloc_cell_old _ _ _ _ (by simp), alloc_cell_new _ _ _ _ _ (by simp)],
    fun j => alloc_cell_new _ _ _ _ _ (by simp)⟩
end Go.Proofs.YtmepcmnpmhhiiaaGreatDoor
namespace Go.Proofs.YtmepcmnpmhhiiaaGreatDoor
open Go.RowKit Go.WideShapes Go.ChangeShapes Go.ChangeAt
set_option linter.unusedVariables false
set_option linter.unusedSimpArgs false
set_option linter.unusedSectionVars false

theorem Tryz.own : ownKnob Tryz.prog.godebug = none := by kernel_rfl
theorem Tryz.laidOut : laidOutB Tryz.prog = true := by kernel_rfl

section
variable {H : Type} {enc : TypeId × Value → H} {P : Program}

theorem trodAll_stays (hl : laidOutB P = true) {W W' : World} (hb : Below W.heap.size W W') (sp : Nat → Bool) :
    ∀ (ts : List TypeId) (vs : List Value) (ds : List (DataW H)) (ps : List MemPlace), (ts.all fun t => P.readableRec t && decide (t < P.types.size)) = true →
      DataW.TrodAll enc P W 0 (fun _ => true) true ts vs ds ps → (∀ p ∈ ps, sp p.block = true) → (∀ p ∈ ps, p.block < W.heap.size) → DataW.TrodAll enc P W' 0 sp true ts vs ds ps
  | [], [], [], _, _, h, _, _ => h
  | [], [], _ :: _, _, _, h, _, _ => by cases h
  | [], _ :: _, _, _, _, h, _, _ => by cases h
  | _ :: _, [], _, _, _, h, _, _ => by cases h
  | _ :: _, _ :: _, [], _, _, h, _, _ => by cases h
  | t :: ts, v :: vs, d :: ds, ps, hr, h, hs, hlt => by
    obtain ⟨p, q, h1, h2, rfl⟩ := h
    simp only [List.all_cons, Bool.and_eq_true, decide_eq_true_eq] at hr
    exact ⟨p, q, WideElems.Trod_stays hl hr.1.1 hr.1.2 h1 (fun x hx => hb.same (hlt x (List.mem_append_left _ hx))) (fun x hx => hs x (List.mem_append_left _ hx)),
      trodAll_stays hl hb sp ts vs ds q hr.2 h2 (fun x hx => hs x (List.mem_append_right _ hx)) (fun x hx => hlt x (List.mem_append_right _ hx)), rfl⟩

/-- What a law says that answers true and leaves old memory as it was. -/
theorem law_post {f : Func} {s : ChangeSpec} {W W' : World} {args : Array Value} {ds gs : List (DataW H)} {before : List MemPlace} {tb : TypeId}
    (hl : laidOutB P = true) (hW : DataW.Whole enc P f.params.toList s.vars false W args.toList ds gs before) (hvars : s.vars = [])
    (hr : (f.params.toList.all fun t => P.readableRec t && decide (t < P.types.size)) = true)
    (hres : f.resultTypes = #[tb]) (htb : P.underlying tb = some .bool)
    (h1 : (s.fn H (ds ++ gs)).results = [.lit (.bool true)]) (h2 : (s.fn H (ds ++ gs)).args = ds) (h3 : (s.fn H (ds ++ gs)).vars = [])
    (hb : Below W.heap.size W W') : s.post enc P f false true false false W args (.bool true) W' := by
  have hW0 := hW
  obtain ⟨p, q, hA, hV, rfl, hfz, hnd⟩ := hW
  rw [hvars] at hV
  cases gs with
  | cons g gs => cases hV
  | nil =>
    obtain rfl : q = [] := hV
    have hlt : ∀ x ∈ p ++ [], x.block < W.heap.size := fun x hx => hW0.lt x hx
    have hold : ∀ x ∈ p ++ [], (fun b => decide (b < W.heap.size)) x.block = true := fun x hx => by simpa using hlt x hx
    have hT : ∀ (b : Nat) (sp : Nat → Bool) (hd : Bool), DataW.TrodAll enc P W' b sp hd f.resultTypes.toList (Value.resultList f.resultTypes.size (.bool true)) (s.fn H (ds ++ [])).results [] := fun b sp hd => by
      rw [h1, hres]
      exact trodAll_mk1 (shut_bool htb true)
    refine ⟨ds, [], p ++ [], [], p, [], hW0, hT _ _ _, ?_, ?_, World.keptBut_mono (fun x hx => ⟨hx, Or.inr (by simpa using hx)⟩) (hb.frame (· ∈ p ++ [])), fun h => by cases h⟩
    · rw [h2]
      exact trodAll_stays hl hb _ _ _ _ _ hr hA (fun x hx => hold x (by simpa using hx)) (fun x hx => hlt x (by simpa using hx))
    · rw [h3, hvars]
      rfl
end

/-- Whatever reads as data of a type lies so, is good, and its size is told. -/
def Rd {α : Type} (P : Program) (t : TypeId) (E : Enc α) (G : α → Prop) (m : α → Nat) : Prop :=
  ∀ (H : Type) (enc : TypeId × Value → H) (w : World) (fuel : Nat) (cs : List Value) (x : DataW H × List MemPlace), DataW.trod enc P w 0 (fun _ => true) true fuel t cs = some x → ∃ a : α, E w a cs ∧ G a ∧ m a ≤ Rows.uptoBulk x.1

section
variable {P : Program}

def szTxt (s : Txt) : Nat := s.size + 1
def szOne {α : Type} (_ : α) : Nat := 1
def szList {α : Type} (m : α → Nat) (l : List α) : Nat := (l.map m).sum + 1
def szBoth {α β : Type} (m : α → Nat) (n : β → Nat) (x : α × β) : Nat := m x.1 + n x.2
def okTxt (s : Txt) : Prop := s.size ≤ 9223372036854775807
def okNum (n : Int) : Prop := -9223372036854775808 ≤ n ∧ n ≤ 9223372036854775807
def okAny {α : Type} (_ : α) : Prop := True
def okList {α : Type} (G : α → Prop) (l : List α) : Prop := ∀ x ∈ l, G x
def okBoth {α β : Type} (G : α → Prop) (F : β → Prop) (x : α × β) : Prop := G x.1 ∧ F x.2
def truth : Enc Bool := One Value.bool

theorem sz_len {α : Type} {m : α → Nat} (h : ∀ x, 1 ≤ m x) (l : List α) : l.length ≤ szList m l := by
  unfold szList
  induction l with
  | nil => simp
  | cons x l ih => have := h x; simp at ih ⊢; omega
theorem szTxt_pos (s : Txt) : 1 ≤ szTxt s := by unfold szTxt; omega
theorem szPair_pos (x : Txt × Txt) : 1 ≤ szBoth szTxt szTxt x := by unfold szBoth szTxt; omega
theorem Rd.txt {t : TypeId} (ht : P.underlying t = some .string) : Rd P t txt okTxt szTxt := by
  intro H enc w fuel cs x h
  obtain ⟨s, rfl, rfl, hs⟩ := DataW.trod_string ht h
  exact ⟨s, rfl, by unfold okTxt; unfold maxLen at hs; omega, by simp only [Rows.uptoBulk, Array.length_toList]; exact Nat.le_refl _⟩
theorem Rd.num {t : TypeId} (ht : P.underlying t = some (.int .i64)) : Rd P t num okNum szOne := by
  intro H enc w fuel cs x h
  obtain ⟨n, rfl, rfl, hs⟩ := DataW.trod_int ht h
  exact ⟨n, rfl, by have := hs; simp [Lit.wf, IntKind.min, IntKind.max, IntKind.signed, IntKind.bits] at this; unfold okNum; omega, by simp [szOne, Rows.uptoBulk]⟩
theorem Rd.truth {t : TypeId} (ht : P.underlying t = some .bool) : Rd P t truth okAny szOne := by
  intro H enc w fuel cs x h
  obtain ⟨b, rfl, rfl⟩ := DataW.trod_bool ht h
  exact ⟨b, rfl, trivial, by simp [szOne, Rows.uptoBulk]⟩

theorem choose_list {α β : Type} {m : α → Nat} {n : β → Nat} : ∀ (es : List β) (Q : Nat → α → Prop), (∀ i (hi : i < es.length), ∃ a, Q i a ∧ m a ≤ n es[i]) →
    ∃ l : List α, l.length = es.length ∧ (∀ i (hi : i < l.length), Q i l[i]) ∧ (l.map m).sum ≤ (es.map n).sum
  | [], _, _ => ⟨[], rfl, fun i hi => absurd hi (by simp), by simp⟩
  | e :: es, Q, h => by
    obtain ⟨l, h1, h2, h3⟩ := choose_list es (fun i => Q (i + 1)) (fun i hi => by
      have := h (i + 1) (by simpa using hi)
      simpa using this)
    obtain ⟨a, g1, g2⟩ := h 0 (by simp)
    refine ⟨a :: l, by simp [h1], fun i hi => ?_, by simp at g2 ⊢; omega⟩
    cases i with
    | zero => exact g1
    | succ i => exact h2 i (by simpa using hi)
theorem bulkAll_sum {H : Type} (l : List (DataW H)) : Rows.uptoBulkAll l = (l.map Rows.uptoBulk).sum := by
  induction l with
  | nil => simp [Rows.uptoBulkAll]
  | cons x l ih => simp [Rows.uptoBulkAll, ih]

theorem Rd.slice {α : Type} {t e : TypeId} {k : Nat} {E : Enc α} {G : α → Prop} {m : α → Nat} (ht : P.underlying t = some (.slice e)) (hk : 0 < k) (hc : P.cellsOf e = k) (hE : Rd P e E G m) :
    Rd P t (Sl E k) (okList G) (szList m) := by
  intro H enc w fuel cs x h
  rcases DataW.trod_slice ht h with ⟨rfl, rfl⟩ | ⟨a, len, cap, elems, rest, n, rfl, rfl, rfl, hb, hl, hm, hlen, hel, hsp, hns⟩
  · exact ⟨[], ⟨_, rfl, none, 0, rfl, by simp, by unfold maxLen; omega, Or.inl rfl⟩, fun x hx => by simp at hx, by simp [szList, Rows.uptoBulk]⟩
  · rw [hc] at hel
    have each : ∀ i (hi : i < elems.length), ∃ a', (∃ vs, E w a' vs ∧ vs.length = k ∧ (∀ j, j < k → w.cell? ((a.add (i * k)).add j) = vs[j]?) ∧ G a') ∧ m a' ≤ Rows.uptoBulk elems[i].1 := by
      intro i hi
      have h1 := hel i (by omega)
      rw [List.getElem?_eq_getElem hi, Option.bind_eq_some_iff] at h1
      obtain ⟨vs, g1, g2⟩ := h1
      obtain ⟨_, g3, g4⟩ := World.cells?_some g1
      obtain ⟨a', e1, e2, e3⟩ := hE H enc w n vs _ g2
      exact ⟨a', ⟨vs, e1, g3, g4, e2⟩, e3⟩
    obtain ⟨l, l1, l2, l3⟩ := choose_list (n := fun y : DataW H × List MemPlace => Rows.uptoBulk y.1) elems _ each
    refine ⟨l, ⟨_, rfl, some a, cap, by rw [l1, hlen], by omega, hm, ?_⟩, ?_, ?_⟩
    · by_cases h0 : l = []
      · exact Or.inl h0
      · right
        have hpos : 0 < l.length := List.length_pos_iff.2 h0
        obtain ⟨b, o, spot⟩ := a
        obtain ⟨vs, e1, e2, e3, _⟩ := l2 0 hpos
        have hc0 := e3 0 hk
        have hspot : spot = none := by
          have : w.cell? ⟨b, o, spot⟩ = some (vs[0]'(by omega)) := by
            rw [← List.getElem?_eq_getElem (by omega), ← hc0]
            simp [Addr.add]
          simpa using World.cell?_spot this
        subst hspot
        refine ⟨b, o, rfl, fun i hi => ?_⟩
        obtain ⟨vs, e1, e2, e3, _⟩ := l2 i hi
        refine ⟨vs, e1, e2, fun j x hx => ?_⟩
        have hj : j < vs.length := (List.getElem?_eq_some_iff.1 hx).1
        have := e3 j (by omega)
        rw [hx, add_plain, add_plain] at this
        exact this
    · intro x hx
      obtain ⟨i, hi, rfl⟩ := List.getElem_of_mem hx
      obtain ⟨_, _, _, _, g⟩ := l2 i hi
      exact g
    · simp only [szList, Rows.uptoBulk, bulkAll_sum, List.map_map]
      have : (elems.map fun y : DataW H × List MemPlace => Rows.uptoBulk y.1) = elems.map (Rows.uptoBulk ∘ fun x => x.1) := rfl
      rw [this] at l3
      omega

theorem Rd.pair {α : Type} {t e : TypeId} {k : Nat} {E : Enc α} {G : α → Prop} {m : α → Nat} (ht : P.underlying t = some (.array 2 e)) (hc : P.cellsOf e = k) (hc2 : P.cellsOf t = 2 * k) (hE : Rd P e E G m) :
    Rd P t (Both E E) (okBoth G G) (szBoth m m) := by
  intro H enc w fuel cs x h
  obtain ⟨xs, n, rfl, rfl, h1, h2, h3⟩ := DataW.trod_array ht h
  match xs, h2, h3 with
  | [y0, y1], _, h3 =>
    have g0 := h3 0 (by omega)
    have g1 := h3 1 (by omega)
    obtain ⟨a, a1, a2, a3⟩ := hE H enc w n _ _ g0
    obtain ⟨b, b1, b2, b3⟩ := hE H enc w n _ _ g1
    refine ⟨(a, b), ⟨_, _, ?_, a1, b1⟩, ⟨a2, b2⟩, ?_⟩
    · rw [hc] at *
      simp only [Nat.zero_mul, List.drop_zero, Nat.one_mul]
      have : (cs.drop k).take k = cs.drop k := List.take_of_length_le (by simp; omega)
      rw [this, List.take_append_drop]
    · simp only [szBoth, Rows.uptoBulk, List.map_cons, List.map_nil, Rows.uptoBulkAll]
      omega

/-- The fields of a struct from one on, that lie from a place on. -/
def Rdf {α : Type} (P : Program) (fs : List Field) (o : Nat) (tot : Nat) (E : Enc α) (G : α → Prop) (m : α → Nat) : Prop :=
  ∀ (H : Type) (enc : TypeId × Value → H) (w : World) (n : Nat) (cs : List Value) (xs : List (DataW H × List MemPlace)), cs.length = tot → xs.length = fs.length →
    (∀ (i : Nat) (f : Field), fs[i]? = some f → DataW.trod enc P w 0 (fun _ => true) true n f.type ((cs.drop f.offset).take (P.cellsOf f.type)) = xs[i]?) →
    ∃ a : α, E w a (cs.drop o) ∧ G a ∧ m a ≤ (xs.map fun y => Rows.uptoBulk y.1).sum
theorem Rdf.last {α : Type} {f : Field} {o k : Nat} {t : TypeId} {E : Enc α} {G : α → Prop} {m : α → Nat} (ho : f.offset = o) (ht : f.type = t) (hc : P.cellsOf t = k) (hE : Rd P t E G m) : Rdf P [f] o (o + k) E G m := by
  subst ho ht
  intro H enc w n cs xs h1 h2 h3
  match xs, h2, h3 with
  | [y], _, h3 =>
    have g := h3 0 f rfl
    rw [hc, List.take_of_length_le (by simp; omega)] at g
    obtain ⟨a, a1, a2, a3⟩ := hE H enc w n _ _ g
    exact ⟨a, a1, a2, by simpa using a3⟩
theorem Rdf.cons {α β : Type} {f : Field} {fs : List Field} {o o' k tot : Nat} {t : TypeId} {E : Enc α} {G : α → Prop} {m : α → Nat} {F : Enc β} {G' : β → Prop} {m' : β → Nat}
    (ho : f.offset = o) (ht : f.type = t) (hc : P.cellsOf t = k) (ho' : o' = o + k) (hE : Rd P t E G m) (hF : Rdf P fs o' tot F G' m') : Rdf P (f :: fs) o tot (Both E F) (okBoth G G') (szBoth m m') := by
  subst ho ht ho'
  intro H enc w n cs xs h1 h2 h3
  cases xs with
  | nil => simp at h2
  | cons y xs =>
    have g := h3 0 f rfl
    rw [hc] at g
    obtain ⟨a, a1, a2, a3⟩ := hE H enc w n _ _ g
    obtain ⟨b, b1, b2, b3⟩ := hF H enc w n cs xs h1 (by simpa using h2) (fun i f' hf => by
      have := h3 (i + 1) f' (by simpa using hf)
      simpa using this)
    refine ⟨(a, b), ⟨_, _, ?_, a1, b1⟩, ⟨a2, b2⟩, by simp [szBoth] at a3 b3 ⊢; omega⟩
    rw [← List.drop_drop, List.take_append_drop]
theorem Rd.struct {α : Type} {t : TypeId} {fs : Array Field} {tot : Nat} {E : Enc α} {G : α → Prop} {m : α → Nat} (ht : P.underlying t = some (.struct fs)) (hc : P.cellsOf t = tot) (hF : Rdf P fs.toList 0 tot E G m) : Rd P t E G m := by
  intro H enc w fuel cs x h
  obtain ⟨xs, n, rfl, rfl, h1, h2, h3⟩ := DataW.trod_struct ht h
  obtain ⟨a, a1, a2, a3⟩ := hF H enc w n cs xs (by omega) (by simpa using h2) (fun i f hf => h3 i f (by simpa using hf))
  refine ⟨a, by simpa using a1, a2, ?_⟩
  simp only [Rows.uptoBulk, bulkAll_sum, List.map_map]
  have : (xs.map fun y : DataW H × List MemPlace => Rows.uptoBulk y.1) = xs.map (Rows.uptoBulk ∘ fun x => x.1) := rfl
  rw [this] at a3
  omega

/-- An argument, read. -/
theorem Rd.slice_arg {α : Type} {t : TypeId} {k : Nat} {E : Enc α} {G : List α → Prop} {m : List α → Nat} {H : Type} {enc : TypeId × Value → H} {w : World} {v : Value} {d : DataW H} {ps : List MemPlace}
    (hE : Rd P t (Sl E k) G m) (hv : ∃ p n c, v = .slice p n c) (h : DataW.Trod enc P w 0 (fun _ => true) true t v d ps) : ∃ l : List α, SliceOf E k w l v ∧ G l ∧ m l ≤ Rows.uptoBulk d := by
  obtain ⟨fuel, hf⟩ := h
  obtain ⟨a, ⟨u, h1, h2⟩, h3, h4⟩ := hE H enc w fuel _ _ hf
  obtain ⟨p, n, c, rfl⟩ := hv
  have : u = .slice p n c := by
    simp [Value.cells] at h1
    exact h1.symm
  subst this
  exact ⟨a, h2, h3, h4⟩
theorem Rd.txt_arg {t : TypeId} {H : Type} {enc : TypeId × Value → H} {w : World} {v : Value} {d : DataW H} {ps : List MemPlace} (ht : P.underlying t = some .string) (hv : ∃ s, v = .string s)
    (h : DataW.Trod enc P w 0 (fun _ => true) true t v d ps) : ∃ s : Txt, v = .string s ∧ okTxt s ∧ szTxt s ≤ Rows.uptoBulk d := by
  obtain ⟨fuel, hf⟩ := h
  obtain ⟨a, h1, h3, h4⟩ := Rd.txt ht H enc w fuel _ _ hf
  obtain ⟨s, rfl⟩ := hv
  have h1' : [Value.string s] = [Value.string a] := h1
  simp at h1'
  subst h1'
  exact ⟨s, rfl, h3, h4⟩
theorem Rd.num_arg {t : TypeId} {H : Type} {enc : TypeId × Value → H} {w : World} {v : Value} {d : DataW H} {ps : List MemPlace} (ht : P.underlying t = some (.int .i64)) (hv : ∃ n, v = .int .i64 n)
    (h : DataW.Trod enc P w 0 (fun _ => true) true t v d ps) : ∃ n : Int, v = .int .i64 n ∧ okNum n := by
  obtain ⟨fuel, hf⟩ := h
  obtain ⟨a, h1, h3, h4⟩ := Rd.num ht H enc w fuel _ _ hf
  obtain ⟨s, rfl⟩ := hv
  have h1' : [Value.int .i64 s] = [Value.int .i64 a] := h1
  simp at h1'
  subst h1'
  exact ⟨_, rfl, h3⟩
end
theorem rdStrs : Rd Tryz.prog 52 (Sl txt 1) (okList okTxt) (szList szTxt) := Rd.slice Tryz.underlying52 (by decide) (by kernel_rfl) (Rd.txt Tryz.underlying9)
theorem rdPrs : Rd Tryz.prog 53 (Sl (Both txt txt) 2) (okList (okBoth okTxt okTxt)) (szList (szBoth szTxt szTxt)) := Rd.slice Tryz.underlying53 (by decide) (by kernel_rfl) (Rd.pair (k := 1) Tryz.underlying115 (by kernel_rfl) (by kernel_rfl) (Rd.txt Tryz.underlying9))
end Go.Proofs.YtmepcmnpmhhiiaaGreatDoor
namespace Go.Proofs.YtmepcmnpmhhiiaaGreatDoor
open Go.RowKit Go.ChangeShapes Go.WideShapes Go.ChangeAt
set_option linter.unusedVariables false
section
variable {H : Type} {enc : TypeId × Value → H}
theorem handed_and_shaped {a : Assume} {C : Checked} {os : Os} {f : FuncId} {fn : Func} {s : ChangeSpec} {conds : List PathCond} {apart fresh handsOn again : Bool} {X : World → Array Value → Prop}
    (own : ownKnob C.prog.godebug = none) (started : os.Started) (noInit : C.prog.inits.idxOf? f = none) (hfn : C.prog.funcs[f]? = some fn)
    (witness : ∃ (w : World) (tape : Tape) (i : Input), w.os = os ∧ (w.forCall tape i).Shaped C.prog ∧ i.vars = [] ∧ Input.okWide C.prog (w.forCall tape i) .any w.heap.size f i ∧
      ((s.pre enc C.prog fn conds apart (w.forCall tape i).memory i.args ∧ X (w.forCall tape i).memory i.args) ∧ sizedMet enc C.prog fn (OpenSpec.ofChange s) apart (w.forCall tape i).memory i.args) ∧ a.holds C.prog (lone (Frame.enter C.prog f i.args .normal) [] (w.forCall tape i)))
    (contract : ∀ (W : World) (base : Nat) (args : Array Value) (ds gs : List (DataW H)) (before : List MemPlace),
      (∀ (j : Nat) t v, fn.params[j]? = some t → args[j]? = some v → Value.okWide C.prog W .any base t v) →
      DataW.Whole enc C.prog fn.params.toList s.vars apart W args.toList ds gs before →
      W.ShapedOpen C.prog →
      Calls C.prog f args W fun e W' => ∃ v, e = .returned v ∧ s.post enc C.prog fn apart fresh handsOn again W args v W') :
    ReturnsInHanded a C os f .any (fun w args => (s.pre enc C.prog fn conds apart w args ∧ X w args) ∧ sizedMet enc C.prog fn (OpenSpec.ofChange s) apart w args) (s.post enc C.prog fn apart fresh handsOn again) := by
  refine returnsInHanded_of_calls own started noInit witness ?_
  intro w tape i _ hsh _ hok hpre hholds
  obtain ⟨_, _, _, fn', hfn', _, _, _, _, hval⟩ := hok
  have e : fn' = fn := Option.some.inj (hfn'.symm.trans hfn)
  subst e
  obtain ⟨⟨⟨ds, gs, before, hw, hc⟩, hx⟩, hz⟩ := hpre
  have hw' := DataW.Whole.of_heap (w' := w.forCall tape i) (by rfl) hw
  refine (contract (w.forCall tape i) w.heap.size i.args ds gs before hval hw' hsh).mono fun e W' ⟨v, he, hp⟩ => ?_
  subst he
  exact ChangeSpec.post_blind hp
end
/-- The number that the library's variable holds. -/
theorem maxLen_cell {w : World} (h : w.ShapedOpen Tryz.prog) : ∃ m, w.cell? ⟨0, 0, none⟩ = some (.int .i64 m) :=
  cell_of_shapedOpen_int (P := Tryz.prog) (g := 0) (t := 3) (zero := #[.int .i64 0]) h (of_decide_eq_true (by kernel_rfl)) (by kernel_rfl) rfl (by kernel_rfl) (by kernel_rfl) Tryz.underlying3
end Go.Proofs.YtmepcmnpmhhiiaaGreatDoor
namespace Go.Proofs.YtmepcmnpmhhiiaaGreatDoor
open Go.RowKit Go.ChangeShapes Go.WideShapes Go.ChangeAt
set_option linter.unusedVariables false
section
variable {H : Type} {enc : TypeId × Value → H}
theorem handed_and_sized {a : Assume} {C : Checked} {os : Os} {f : FuncId} {fn : Func} {s : ChangeSpec} {conds : List PathCond} {apart fresh handsOn again : Bool} {X : World → Array Value → Prop}
    (own : ownKnob C.prog.godebug = none) (started : os.Started) (noInit : C.prog.inits.idxOf? f = none) (hfn : C.prog.funcs[f]? = some fn)
    (witness : ∃ (w : World) (tape : Tape) (i : Input), w.os = os ∧ (w.forCall tape i).Shaped C.prog ∧ i.vars = [] ∧ Input.okWide C.prog (w.forCall tape i) .any w.heap.size f i ∧
      ((s.pre enc C.prog fn conds apart (w.forCall tape i).memory i.args ∧ X (w.forCall tape i).memory i.args) ∧ sizedMet enc C.prog fn (OpenSpec.ofChange s) apart (w.forCall tape i).memory i.args) ∧ a.holds C.prog (lone (Frame.enter C.prog f i.args .normal) [] (w.forCall tape i)))
    (contract : ∀ (W : World) (base : Nat) (args : Array Value) (ds gs : List (DataW H)) (before : List MemPlace),
      (∀ (j : Nat) t v, fn.params[j]? = some t → args[j]? = some v → Value.okWide C.prog W .any base t v) →
      DataW.Whole enc C.prog fn.params.toList s.vars apart W args.toList ds gs before →
      W.ShapedOpen C.prog →
      (DataW.weightsEach C.prog (fn.params.toList ++ (OpenSpec.ofChange s).bare.plain.varTypes C.prog) (ds ++ gs)).all (· ≤ reachBytes) = true →
      Calls C.prog f args W fun e W' => ∃ v, e = .returned v ∧ s.post enc C.prog fn apart fresh handsOn again W args v W') :
    ReturnsInHanded a C os f .any (fun w args => (s.pre enc C.prog fn conds apart w args ∧ X w args) ∧ sizedMet enc C.prog fn (OpenSpec.ofChange s) apart w args) (s.post enc C.prog fn apart fresh handsOn again) := by
  refine returnsInHanded_of_calls own started noInit witness ?_
  intro w tape i _ hsh _ hok hpre hholds
  obtain ⟨_, _, _, fn', hfn', _, _, _, _, hval⟩ := hok
  have e : fn' = fn := Option.some.inj (hfn'.symm.trans hfn)
  subst e
  obtain ⟨⟨⟨ds, gs, before, hw, hc⟩, hx⟩, hz⟩ := hpre
  have hw' := DataW.Whole.of_heap (w' := w.forCall tape i) (by rfl) hw
  refine (contract (w.forCall tape i) w.heap.size i.args ds gs before hval hw' hsh (sizedMet.weights hz hw)).mono fun e W' ⟨v, he, hp⟩ => ?_
  subst he
  exact ChangeSpec.post_blind hp
theorem reach_len {P : Program} {w : World} {t e : TypeId} {n c : Nat} {p : Option Addr} {d : DataW H} {ps : List MemPlace} (ht : P.underlying t = some (.slice e))
    (h : DataW.Trod enc P w 0 (fun _ => true) true t (.slice p n c) d ps) {ts : List TypeId} {ds : List (DataW H)} {j : Nat} (hsz : (DataW.weightsEach P ts ds).all (· ≤ reachBytes) = true) (hj : ts[j]? = some t) (hd : ds[j]? = some d) : n * P.bytesOf e ≤ reachBytes := by
  obtain ⟨fuel, hf⟩ := h
  rcases DataW.trod_slice ht hf with ⟨h1, h2⟩ | ⟨a, len, cap, elems, rest, m, h0, h1, h2, hb, hl, hm, hlen, _⟩
  · have : n = 0 := by
      simp [Value.cells] at h1
      exact h1.2.1
    rw [this, Nat.zero_mul]
    exact Nat.zero_le _
  · have e1 : n = len := by
      simp [Value.cells] at h1
      exact h1.2.1
    have e2 : d = .slice (elems.map (·.1)) (rest.map (·.1)) := congrArg Prod.fst h2
    subst e2 e1
    have := sized_slice hsz hj hd ht
    simp only [List.length_map] at this
    rw [hlen] at this
    exact Nat.le_trans (Nat.mul_le_mul_right _ (Nat.le_add_right _ _)) this
end
end Go.Proofs.YtmepcmnpmhhiiaaGreatDoor
namespace Go.Proofs.YtmepcmnpmhhiiaaGreatDoor
open Go.RowKit Go.ChangeShapes Go.WideShapes Go.ChangeAt
set_option linter.unusedVariables false
section
variable {H : Type} {enc : TypeId × Value → H}
theorem handed_sized_x {a : Assume} {C : Checked} {os : Os} {f : FuncId} {fn : Func} {s : ChangeSpec} {conds : List PathCond} {apart fresh handsOn again : Bool} {X : World → Array Value → Prop}
    (own : ownKnob C.prog.godebug = none) (started : os.Started) (noInit : C.prog.inits.idxOf? f = none) (hfn : C.prog.funcs[f]? = some fn)
    (witness : ∃ (w : World) (tape : Tape) (i : Input), w.os = os ∧ (w.forCall tape i).Shaped C.prog ∧ i.vars = [] ∧ Input.okWide C.prog (w.forCall tape i) .any w.heap.size f i ∧
      ((s.pre enc C.prog fn conds apart (w.forCall tape i).memory i.args ∧ X (w.forCall tape i).memory i.args) ∧ sizedMet enc C.prog fn (OpenSpec.ofChange s) apart (w.forCall tape i).memory i.args) ∧ a.holds C.prog (lone (Frame.enter C.prog f i.args .normal) [] (w.forCall tape i)))
    (contract : ∀ (W : World) (base : Nat) (args : Array Value) (ds gs : List (DataW H)) (before : List MemPlace),
      (∀ (j : Nat) t v, fn.params[j]? = some t → args[j]? = some v → Value.okWide C.prog W .any base t v) →
      DataW.Whole enc C.prog fn.params.toList s.vars apart W args.toList ds gs before →
      W.ShapedOpen C.prog →
      (DataW.weightsEach C.prog (fn.params.toList ++ (OpenSpec.ofChange s).bare.plain.varTypes C.prog) (ds ++ gs)).all (· ≤ reachBytes) = true →
      X W.memory args →
      Calls C.prog f args W fun e W' => ∃ v, e = .returned v ∧ s.post enc C.prog fn apart fresh handsOn again W args v W') :
    ReturnsInHanded a C os f .any (fun w args => (s.pre enc C.prog fn conds apart w args ∧ X w args) ∧ sizedMet enc C.prog fn (OpenSpec.ofChange s) apart w args) (s.post enc C.prog fn apart fresh handsOn again) := by
  refine returnsInHanded_of_calls own started noInit witness ?_
  intro w tape i _ hsh _ hok hpre hholds
  obtain ⟨_, _, _, fn', hfn', _, _, _, _, hval⟩ := hok
  have e : fn' = fn := Option.some.inj (hfn'.symm.trans hfn)
  subst e
  obtain ⟨⟨⟨ds, gs, before, hw, hc⟩, hx⟩, hz⟩ := hpre
  have hw' := DataW.Whole.of_heap (w' := w.forCall tape i) (by rfl) hw
  refine (contract (w.forCall tape i) w.heap.size i.args ds gs before hval hw' hsh (sizedMet.weights hz hw) hx).mono fun e W' ⟨v, he, hp⟩ => ?_
  subst he
  exact ChangeSpec.post_blind hp
theorem reach_txt {P : Program} {w : World} {t : TypeId} {s : Txt} {d : DataW H} {ps : List MemPlace} (ht : P.underlying t = some .string)
    (h : DataW.Trod enc P w 0 (fun _ => true) true t (.string s) d ps) {ts : List TypeId} {ds : List (DataW H)} {j : Nat} (hsz : (DataW.weightsEach P ts ds).all (· ≤ reachBytes) = true) (hj : ts[j]? = some t) (hd : ds[j]? = some d) : s.size ≤ 140737488351232 := by
  obtain ⟨fuel, hf⟩ := h
  cases fuel with
  | zero => simp [DataW.trod] at hf
  | succ fuel =>
    simp only [DataW.trod, ht] at hf
    have : d = .lit (.string s.data.toList) := by
      simp [Value.cells] at hf
      exact hf.2.1.symm
    subst this
    have := sized_string hsz hj hd
    rw [Array.length_toList] at this
    exact this
end
set_option maxRecDepth 100000 in
theorem space_tab {rest : List (String × DataW Unit)} {a b : String × DataW Unit} {W : World} (hh : ((a :: b :: ("strings.asciiSpace", Rows.laid_strings_asciiSpace) :: rest).all fun x => x.2.handleName?.isNone) = true)
    (h : laidMetH Tryz.prog (a :: b :: ("strings.asciiSpace", Rows.laid_strings_asciiSpace) :: rest) W.memory) : Lib.TabIs Tryz.prog W "strings.asciiSpace" .u8 Lib.asciiSpaceTab := by
  rw [MakeChecks.laidMetH_plain _ _ _ hh] at h
  have h2 := (laidMet.tail (laidMet.tail h))
  have e : (Rows.laid_strings_asciiSpace : DataW Unit) = Lib.tabData .u8 Lib.asciiSpaceTab := by kernel_rfl
  rw [e] at h2
  exact Lib.tabIs_of_head (g := 1) (t := 173) (e := 5) (n := 256) (W := W.memory) (by kernel_rfl) (by kernel_rfl) Tryz.underlying173 Tryz.underlying5 (by kernel_rfl) (by kernel_rfl) h2
end Go.Proofs.YtmepcmnpmhhiiaaGreatDoor
namespace Go.Proofs.YtmepcmnpmhhiiaaGreatDoor
open Go.RowKit
set_option linter.unusedVariables false
set_option linter.unusedSimpArgs false

/-- A policy: who owns it, whom it lets read. -/
abbrev Pol := Txt × List Txt
abbrev Lab := List Pol
def pol : Enc Pol := Both txt (Sl txt 1)
theorem pol_stays : Stays pol := Both.stays (One.stays _) (Sl.stays (One.stays _) 1)
/-- `api.Label`. -/
abbrev Lbl (w : World) (l : Lab) (v : Value) : Prop := SliceOf pol 2 w l v
theorem Lbl.stays {w w' : World} (hk : Keeps w w') {l : Lab} {v : Value} (h : Lbl w l v) : Lbl w' l v := SliceOf.stays pol_stays hk h
def okPol : Pol → Prop := okBoth okTxt (okList okTxt)
abbrev okLab : Lab → Prop := okList okPol
def szPol : Pol → Nat := szBoth szTxt (szList szTxt)
theorem rdPol : Rd Tryz.prog 77 pol okPol szPol :=
  Rd.struct (tot := 2) Tryz.underlying77 (by kernel_rfl) (Rdf.cons (k := 1) (o' := 1) rfl rfl (by kernel_rfl) rfl (Rd.txt Tryz.underlying9) (Rdf.last (k := 1) rfl rfl (by kernel_rfl) rdStrs))
theorem rdLabel : Rd Tryz.prog 23 (Sl pol 2) okLab (szList szPol) := Rd.slice Tryz.underlying23 (by decide) (by kernel_rfl) rdPol
/-- A label's cells. -/
theorem Lbl.cells {w : World} {l : Lab} {v : Value} (h : Lbl w l v) :
    ∃ b o c p, v = .slice p l.length c ∧ l.length ≤ c ∧ c ≤ 9223372036854775807 ∧ (0 < l.length → p = some ⟨b, o, none⟩) ∧
      ∀ (i : Nat) (h : i < l.length), ∃ u, w.cell? ⟨b, o + i * 2, none⟩ = some (.string l[i].1) ∧ w.cell? ⟨b, o + i * 2 + 1, none⟩ = some u ∧ Strs w l[i].2 u := by
  obtain ⟨p, c, e, h1, h2, h3⟩ := h
  unfold maxLen at h2
  rcases h3 with rfl | ⟨b, o, hp, h3⟩
  · exact ⟨0, 0, c, p, e, h1, by omega, fun h => absurd h (by simp), fun i h => absurd h (by simp)⟩
  · refine ⟨b, o, c, p, e, h1, by omega, fun _ => hp, fun i hi => ?_⟩
    obtain ⟨vs, ⟨us, us', e1, e2, ⟨u, e3, e4⟩⟩, g2, g3⟩ := h3 i hi
    have e2' : us = [.string l[i].1] := e2
    subst e2' e3 e1
    exact ⟨u, by simpa using g3 0 _ rfl, by simpa using g3 1 _ rfl, e4⟩
end Go.Proofs.YtmepcmnpmhhiiaaGreatDoor
namespace Go.Proofs.YtmepcmnpmhhiiaaGreatDoor
open Go.RowKit
set_option linter.unusedVariables false
set_option linter.unusedSimpArgs false

theorem enters_at {P : Program} {f : FuncId} {fn : Func} {c : Code} (hf : P.funcs[f]? = some fn) (hname : (fn.name == "runtime.NumGoroutine") = false) (hb : fn.body = some c) (args : Array Value) (w : World) :
    (callFunc f args).run P w = .ok (.enter f args) w := by
  have h1 : fn.name ≠ "runtime.NumGoroutine" := by simpa using hname
  simp [callFunc, hf, h1, hb, mark]

theorem ret_bool {a b : Bool} (h : a = b) : Ending.returned (.bool a) = Ending.returned (.bool b) := by rw [h]
theorem ret_int {k : IntKind} {a b : Int} (h : a = b) : Ending.returned (.int k a) = Ending.returned (.int k b) := by rw [h]

def letterB (n : Int) : Bool := decide (97 ≤ n) && decide (n ≤ 122) || decide (65 ≤ n) && decide (n ≤ 90) || n == 95
def digitB (n : Int) : Bool := decide (48 ≤ n) && decide (n ≤ 57)

theorem letter_calls (n : Int) (w : World) :
    Calls Tryz.prog 117 #[.int .u8 n] w fun e w' => e = .returned (.bool (letterB n)) ∧ w = w' := by
  go_enter Tryz.func117, Tryz.ntmps117
  go_wp2
  all_goals go_ret
  all_goals exact ⟨ret_bool (by rw [Bool.eq_iff_iff]; simp [letterB] <;> omega), rfl⟩

theorem digit_calls (n : Int) (w : World) :
    Calls Tryz.prog 119 #[.int .u8 n] w fun e w' => e = .returned (.bool (digitB n)) ∧ w = w' := by
  go_enter Tryz.func119, Tryz.ntmps119
  go_wp2
  all_goals go_ret
  all_goals exact ⟨ret_bool (by rw [Bool.eq_iff_iff]; simp [digitB] <;> omega), rfl⟩

/-- Where in a list a text stands first; none: -1. -/
def idxOf (l : List Txt) (x : Txt) : Int := match l.idxOf? x with | some i => (i : Int) | none => -1

theorem idxOf_hit {l : List Txt} {x : Txt} {k : Nat} (hk : k < l.length) (h : l[k] = x) (hne : ∀ j, j < k → l[j]? ≠ some x) : idxOf l x = k := by
  unfold idxOf
  have : l.idxOf? x = some k := by
    rw [List.idxOf?, List.findIdx?_eq_some_iff_getElem]
    refine ⟨hk, by simp [h], fun j hj => ?_⟩
    have := hne j hj
    rw [List.getElem?_eq_getElem (by omega)] at this
    simpa using this
  rw [this]
theorem idxOf_miss {l : List Txt} {x : Txt} (hne : ∀ j, j < l.length → l[j]? ≠ some x) : idxOf l x = -1 := by
  unfold idxOf
  have : l.idxOf? x = none := by
    rw [List.idxOf?, List.findIdx?_eq_none_iff]
    intro y hy
    obtain ⟨j, hj, rfl⟩ := List.getElem_of_mem hy
    have := hne j hj
    rw [List.getElem?_eq_getElem hj] at this
    simpa using this
  rw [this]
theorem idxOf_mem (l : List Txt) (x : Txt) : decide (0 ≤ idxOf l x) = l.contains x := by
  unfold idxOf
  rw [Bool.eq_iff_iff]
  cases h : l.idxOf? x with
  | none =>
    rw [List.idxOf?, List.findIdx?_eq_none_iff] at h
    simp only [Int.reduceNeg, Int.neg_nonneg, decide_eq_true_eq, List.contains_iff_mem]
    constructor
    · intro h; omega
    · intro hm
      have := h x hm
      simp at this
  | some i =>
    rw [List.idxOf?, List.findIdx?_eq_some_iff_getElem] at h
    obtain ⟨hi, he, _⟩ := h
    simp only [beq_iff_eq] at he
    simp only [Int.natCast_nonneg, decide_true, List.contains_iff_mem, true_iff]
    exact he ▸ List.getElem_mem hi
theorem bytes_eq {x y : Txt} : (x.toList == y.toList) = true ↔ x = y := Lib.bytes_beq_iff x y

theorem index_calls (l : List Txt) (x : Txt) (v : Value) (w : World) (h : Strs w l v) :
    Calls Tryz.prog 140 #[v, .string x] w fun e w' => e = .returned (.int .i64 (idxOf l x)) ∧ w = w' := by
  obtain ⟨b, o, c, p, rfl, hlc, hc, hp, hcells⟩ := h.cells
  go_enter Tryz.func140, Tryz.ntmps140
  go_wp2
  go_loop [5, 8] (fun _ i => ∃ k : Nat, k ≤ l.length ∧ i = .int .i64 k ∧ ∀ j, j < k → l[j]? ≠ some x) (fun _ i => l.length - (intOf i).toNat)
  case atStart => exact ⟨0, Nat.zero_le _, rfl, fun j hj => absurd hj (Nat.not_lt_zero _)⟩
  case round =>
    obtain ⟨k, hk, rfl, hne⟩ := hrel
    by_cases hlt : k < l.length
    · have hcell := hcells k hlt
      obtain rfl := hp (by omega)
      clear hp hcells
      go_wp2
      · have he : (x.toList == (l[k]).toList) = true := by assumption
        go_ret
        exact ⟨ret_int (idxOf_hit hlt (bytes_eq.1 he).symm hne).symm, rfl⟩
      · have he : (x.toList == (l[k]).toList) = false := by assumption
        go_round
        case rel =>
          refine ⟨k + 1, by omega, by go_num, fun j hj => ?_⟩
          by_cases e : j = k
          · subst e
            rw [List.getElem?_eq_getElem hlt]
            intro h
            have := bytes_eq (x := x) (y := l[j])
            simp at h
            simp [h] at he
          · exact hne j (by omega)
        case measure => simp [intOf]; omega
    · go_wp2
      go_ret
      exact ⟨ret_int (idxOf_miss (fun j hj => hne j (by omega))).symm, rfl⟩

/-- Is a text in a list? (A word of its own, that the walk lets stand.) -/
def has (l : List Txt) (x : Txt) : Bool := l.contains x
theorem has_iff {l : List Txt} {x : Txt} : has l x = true ↔ x ∈ l := by simp [has]

theorem contains_calls (l : List Txt) (x : Txt) (v : Value) (w : World) (h : Strs w l v) :
    Calls Tryz.prog 64 #[v, .string x] w fun e w' => e = .returned (.bool (has l x)) ∧ w = w' := by
  go_enter Tryz.func64, Tryz.ntmps64
  go_wp2_with (go_at_call 140; refine (index_calls l x _ _ h).mono ?_; rintro e w' ⟨rfl, rfl⟩)
  go_ret
  exact ⟨ret_bool (idxOf_mem l x), rfl⟩
end Go.Proofs.YtmepcmnpmhhiiaaGreatDoor
namespace Go.Proofs.YtmepcmnpmhhiiaaGreatDoor
open Go.RowKit
set_option linter.unusedVariables false
set_option linter.unusedSimpArgs false

/-- The words of the language. -/
def wordsL : List Txt := [
  ⟨#[99, 104, 105, 101, 102]⟩,
  ⟨#[97, 99, 116, 115]⟩,
  ⟨#[105, 110]⟩,
  ⟨#[111, 117, 116]⟩,
  ⟨#[112, 114, 111, 99]⟩,
  ⟨#[98, 101, 103, 105, 110]⟩,
  ⟨#[102, 111, 114]⟩,
  ⟨#[118, 97, 114]⟩,
  ⟨#[105, 102]⟩,
  ⟨#[101, 108, 115, 101]⟩,
  ⟨#[119, 104, 105, 108, 101]⟩,
  ⟨#[115, 101, 110, 100]⟩,
  ⟨#[116, 97, 107, 101]⟩,
  ⟨#[100, 111]⟩,
  ⟨#[114, 101, 116, 117, 114, 110]⟩,
  ⟨#[114, 101, 108, 101, 97, 115, 101]⟩,
  ⟨#[116, 111]⟩,
  ⟨#[105, 110, 116]⟩,
  ⟨#[98, 111, 111, 108]⟩,
  ⟨#[116, 114, 117, 101]⟩,
  ⟨#[102, 97, 108, 115, 101]⟩]
def isWord (s : Txt) : Bool := has wordsL s

theorem strs_new (w : World) (l : List Txt) (e : TypeId) (hl : l.length ≤ 9223372036854775807) : Strs (w.alloc (.cells (l.map Value.string).toArray e)) l (.slice (some ⟨w.heap.size, 0, none⟩) l.length l.length) := by
  refine ⟨_, _, rfl, Nat.le_refl _, by unfold maxLen; omega, Or.inr ⟨_, _, rfl, fun i h => ⟨_, rfl, rfl, fun j x hx => ?_⟩⟩⟩
  rw [World.cell?_alloc_mark]
  match j, hx with
  | 0, hx =>
    simp at hx
    subst hx
    simp [h]

theorem words_calls (w : World) :
    Calls Tryz.prog 184 #[] w fun e w' => ∃ v, e = .returned v ∧ Strs w' wordsL v ∧ Below w.heap.size w w' := by
  go_enter Tryz.func184, Tryz.ntmps184
  go_wp2
  go_ret
  exact ⟨_, rfl, strs_new w wordsL 9 (by decide), (Below.refl _ _).alloc (Nat.le_refl _) _⟩

theorem word_calls (s : Txt) (w : World) :
    Calls Tryz.prog 120 #[.string s] w fun e w' => e = .returned (.bool (isWord s)) ∧ Below w.heap.size w w' := by
  go_enter Tryz.func120, Tryz.ntmps120
  go_wp2_with (first | (go_at_call 184; refine (words_calls _).mono ?_; rintro e w1 ⟨v, rfl, hv, hb⟩) | (go_at_call 64; refine (contains_calls wordsL s _ _ hv).mono ?_; rintro e w2 ⟨rfl, rfl⟩))
  go_ret
  exact ⟨rfl, hb⟩

def okAt (s : Txt) (i : Nat) : Bool := letterB (s.data.toList.getD i 0).toNat || (i != 0 && digitB (s.data.toList.getD i 0).toNat)
def isName (s : Txt) : Bool := decide (1 ≤ s.size) && decide (s.size ≤ 12) && !isWord s && (List.range s.size).all (okAt s)

theorem isName_long {s : Txt} (h : 12 < s.size) : isName s = false := by simp [isName]; omega
theorem isName_empty {s : Txt} (h : ¬ 1 ≤ s.size) : isName s = false := by simp [isName]; omega
theorem isName_word {s : Txt} (h : isWord s = true) : isName s = false := by simp [isName, h]
theorem isName_at {s : Txt} {k : Nat} (hk : k < s.size) (h : okAt s k = false) : isName s = false := by
  simp only [isName, Bool.and_eq_false_iff, List.all_eq_false, List.mem_range]
  exact Or.inr ⟨k, hk, by simp [h]⟩
theorem isName_all {s : Txt} (h1 : 1 ≤ s.size) (h2 : s.size ≤ 12) (h3 : isWord s = false) (h : ∀ j, j < s.size → okAt s j = true) : isName s = true := by
  simp only [isName, h1, h2, h3, decide_true, Bool.not_false, Bool.and_self, Bool.true_and, List.all_eq_true, List.mem_range]
  exact h
theorem byte_at (s : Txt) (k : Nat) (h : k < s.size) : s.data.toList.getD k 0 = s[k] := by
  simp [List.getD, h]; rfl

theorem all_snoc {p : Nat → Bool} {k : Nat} (h : ∀ j, j < k → p j = true) (hk : p k = true) : ∀ j, j < k + 1 → p j = true := by
  intro j hj
  by_cases e : j = k
  · exact e ▸ hk
  · exact h j (by omega)
theorem okAt_letter {s : Txt} {k : Nat} (h : k < s.size) (hl : letterB (s[k].toNat) = true) : okAt s k = true := by
  unfold okAt
  rw [byte_at s k h, hl]
  rfl
theorem okAt_digit {s : Txt} {k : Nat} (h : k < s.size) (h0 : ¬ k = 0) (hd : (!digitB (s[k].toNat)) = false) : okAt s k = true := by
  have hd' : digitB (s[k].toNat) = true := by simpa using hd
  unfold okAt
  rw [byte_at s k h, hd']
  simp [h0]
theorem okAt_first {s : Txt} {k : Nat} (h : k < s.size) (hl : ¬ letterB (s[k].toNat) = true) (h0 : k = 0) : okAt s k = false := by
  have hl' : letterB (s[k].toNat) = false := by simpa using hl
  unfold okAt
  rw [byte_at s k h, hl']
  simp [h0]
theorem okAt_none {s : Txt} {k : Nat} (h : k < s.size) (hl : ¬ letterB (s[k].toNat) = true) (h0 : ¬ k = 0) (hd : ((k : Int) == 0) = true ∨ (!digitB (s[k].toNat)) = true) : okAt s k = false := by
  have hl' : letterB (s[k].toNat) = false := by simpa using hl
  have hd' : digitB (s[k].toNat) = false := by
    rcases hd with hd | hd
    · exact absurd (by simpa using hd) h0
    · simpa using hd
  unfold okAt
  rw [byte_at s k h, hl', hd']
  simp

theorem name_calls (s : Txt) (w : World) :
    Calls Tryz.prog 104 #[.string s] w fun e w' => e = .returned (.bool (isName s)) ∧ Below w.heap.size w w' := by
  by_cases h1 : 1 ≤ s.size
  · by_cases h2 : s.size ≤ 12
    · have h3 : ¬ (s.size : Int) < 1 := by omega
      have h4 : ¬ 12 < (s.size : Int) := by omega
      cases hw : isWord s with
      | true =>
        go_enter Tryz.func104, Tryz.ntmps104
        go_wp2_with (go_at_call 120; refine (word_calls s _).mono ?_; rintro e w1 ⟨rfl, hb⟩)
        go_ret
        exact ⟨ret_bool (isName_word hw).symm, hb⟩
      | false =>
        go_enter Tryz.func104, Tryz.ntmps104
        go_wp2_with (go_at_call 120; refine (word_calls s _).mono ?_; rintro e w1 ⟨rfl, hb⟩)
        go_loop [3, 18] (fun _ i => ∃ k : Nat, k ≤ s.size ∧ i = .int .i64 k ∧ ∀ j, j < k → okAt s j = true) (fun _ i => s.size - (intOf i).toNat)
        case atStart => exact ⟨0, Nat.zero_le _, rfl, fun j hj => absurd hj (Nat.not_lt_zero _)⟩
        case round =>
          obtain ⟨k, hk, rfl, hall⟩ := hrel
          by_cases hlt : k < s.size
          · go_wp2_with (first | (go_at_call 117; refine (letter_calls _ _).mono ?_; rintro e w2 ⟨rfl, rfl⟩) | (go_at_call 119; refine (digit_calls _ _).mono ?_; rintro e w2 ⟨rfl, rfl⟩))
            · have hl : letterB (s[k].toNat) = true := by assumption
              go_round
              case rel => exact ⟨k + 1, by omega, by go_num, all_snoc hall (okAt_letter hlt hl)⟩
              case measure => simp [intOf]; omega
            · have hl : ¬ letterB (s[k].toNat) = true := by assumption
              have h0 : k = 0 := by assumption
              go_ret
              exact ⟨ret_bool (isName_at hlt (okAt_first hlt hl h0)).symm, hb⟩
            · have hl : ¬ letterB (s[k].toNat) = true := by assumption
              have h0 : ¬ k = 0 := by assumption
              have hd : ((k : Int) == 0) = true ∨ (!digitB (s[k].toNat)) = true := by assumption
              go_ret
              exact ⟨ret_bool (isName_at hlt (okAt_none hlt hl h0 hd)).symm, hb⟩
            · have hl : ¬ letterB (s[k].toNat) = true := by assumption
              have h0 : ¬ k = 0 := by assumption
              have hd : ((k : Int) == 0) = false ∧ (!digitB (s[k].toNat)) = false := by assumption
              go_round
              case rel => exact ⟨k + 1, by omega, by go_num, all_snoc hall (okAt_digit hlt h0 hd.2)⟩
              case measure => simp [intOf]; omega
          · go_wp2
            go_ret
            exact ⟨ret_bool (isName_all h1 h2 hw (fun j hj => hall j (by omega))).symm, hb⟩
    · have h3 : ¬ (s.size : Int) < 1 := by omega
      have h4 : 12 < (s.size : Int) := by omega
      go_enter Tryz.func104, Tryz.ntmps104
      go_wp2
      go_ret
      exact ⟨ret_bool (isName_long (by omega)).symm, Below.refl _ _⟩
  · have h3 : (s.size : Int) < 1 := by omega
    go_enter Tryz.func104, Tryz.ntmps104
    go_wp2
    go_ret
    exact ⟨ret_bool (isName_empty h1).symm, Below.refl _ _⟩
end Go.Proofs.YtmepcmnpmhhiiaaGreatDoor
namespace Go.Proofs.YtmepcmnpmhhiiaaGreatDoor
open Go.RowKit
set_option linter.unusedVariables false
set_option linter.unusedSimpArgs false

/-- The bytes from a place on. -/
def bytesOf (s : Txt) : List UInt8 := s.data.toList
theorem bytesOf_len (s : Txt) : (bytesOf s).length = s.size := by unfold bytesOf; rw [Array.length_toList]; rfl
theorem bytesOf_at (s : Txt) (k : Nat) (h : k < s.size) : (bytesOf s)[k]'(by rw [bytesOf_len]; exact h) = s[k] := by
  unfold bytesOf
  simp [ByteArray.getElem_eq_getElem_data]
theorem bytesOf_append (a b : Txt) : bytesOf (a ++ b) = bytesOf a ++ bytesOf b := by
  unfold bytesOf; rw [ByteArray.data_append, Array.toList_append]
theorem txt_ext {a b : Txt} (h : bytesOf a = bytesOf b) : a = b := by
  cases a; cases b
  unfold bytesOf at h
  simpa using h
theorem bytesOf_extract (s : Txt) (a e : Nat) : bytesOf (s.extract a e) = ((bytesOf s).drop a).take (e - a) := by
  unfold bytesOf
  rw [ByteArray.data_extract, Array.toList_extract]
/-- The text of some bytes. -/
def txtOf (l : List UInt8) : Txt := ⟨l.toArray⟩
theorem bytesOf_txtOf (l : List UInt8) : bytesOf (txtOf l) = l := by unfold bytesOf txtOf; simp
theorem txtOf_size (l : List UInt8) : (txtOf l).size = l.length := by rw [← bytesOf_len, bytesOf_txtOf]
theorem txtOf_bytes (t : Txt) : txtOf (bytesOf t) = t := txt_ext (bytesOf_txtOf _)
end Go.Proofs.YtmepcmnpmhhiiaaGreatDoor
namespace Go.Proofs.YtmepcmnpmhhiiaaGreatDoor
open Go.RowKit
set_option linter.unusedVariables false
set_option linter.unusedSimpArgs false

/-- Where the first stands of which it holds; none: -1. -/
def idxBy {α : Type} (l : List α) (q : α → Bool) : Int := match l.findIdx? q with | some i => (i : Int) | none => -1
theorem idxBy_hit {α : Type} {l : List α} {q : α → Bool} {k : Nat} (hk : k < l.length) (h : q l[k] = true) (hne : ∀ j (hj : j < l.length), j < k → q l[j] = false) : idxBy l q = k := by
  unfold idxBy
  have : l.findIdx? q = some k := by
    rw [List.findIdx?_eq_some_iff_getElem]
    refine ⟨hk, h, fun j hj => ?_⟩
    rw [hne j (by omega) hj]
    simp
  rw [this]
theorem idxBy_miss {α : Type} {l : List α} {q : α → Bool} (hne : ∀ j (hj : j < l.length), q l[j] = false) : idxBy l q = -1 := by
  unfold idxBy
  have : l.findIdx? q = none := by
    rw [List.findIdx?_eq_none_iff]
    intro y hy
    obtain ⟨j, hj, rfl⟩ := List.getElem_of_mem hy
    exact hne j hj
  rw [this]
/-- Is there one of which it holds? -/
def anyBy {α : Type} (l : List α) (q : α → Bool) : Bool := l.any q
theorem idxBy_any {α : Type} (l : List α) (q : α → Bool) : decide (0 ≤ idxBy l q) = anyBy l q := by
  unfold idxBy anyBy
  rw [Bool.eq_iff_iff]
  cases h : l.findIdx? q with
  | none =>
    rw [List.findIdx?_eq_none_iff] at h
    simp only [Int.reduceNeg, Int.neg_nonneg, decide_eq_true_eq, List.any_eq_true]
    constructor
    · intro h; omega
    · rintro ⟨x, hx, hq⟩
      rw [h x hx] at hq
      cases hq
  | some i =>
    rw [List.findIdx?_eq_some_iff_getElem] at h
    obtain ⟨hi, he, _⟩ := h
    simp only [Int.natCast_nonneg, decide_true, List.any_eq_true, true_iff]
    exact ⟨_, List.getElem_mem hi, he⟩

/-- A function value that tells `q` of each text of a list, whatever is made in between. -/
def TellsTxt (W : World) (l : List Txt) (fn : FuncId) (cap : Array Value) (q : Txt → Bool) : Prop :=
  ∀ (x : Txt), x ∈ l → ∀ (w : World), Below W.heap.size W w → Calls Tryz.prog fn (#[.string x] ++ cap) w fun e w' => e = .returned (.bool (q x)) ∧ Below w.heap.size w w'

theorem indexFunc_calls (l : List Txt) (v : Value) (fn : FuncId) (cap : Array Value) (q : Txt → Bool) (w : World) (h : Strs w l v) (eg : ∀ args w, (callFunc fn args).run Tryz.prog w = .ok (.enter fn args) w) (hq : TellsTxt w l fn cap q) :
    Calls Tryz.prog 121 #[v, .func (.func fn) #[] cap] w fun e w' => e = .returned (.int .i64 (idxBy l q)) ∧ Below w.heap.size w w' := by
  obtain ⟨b, o, c, p, rfl, hlc, hc, hp, hcells⟩ := h.cells
  go_enter Tryz.func121, Tryz.ntmps121
  go_wp2
  go_loopw [5, 8] (fun _ i wr => ∃ k : Nat, k ≤ l.length ∧ i = .int .i64 k ∧ Below w.heap.size w wr ∧ ∀ j (hj : j < l.length), j < k → q l[j] = false) (fun _ i _ => l.length - (intOf i).toNat)
  case atStart => exact ⟨0, Nat.zero_le _, rfl, Below.refl _ _, fun j _ hj => absurd hj (Nat.not_lt_zero _)⟩
  case round =>
    obtain ⟨k, hk, rfl, hb, hne⟩ := hrel
    by_cases hlt : k < l.length
    · have hcell0 := hcells k hlt
      have hcell : wr.cell? ⟨b, o + k, none⟩ = some (.string l[k]) := (hb.cell (cell_lt hcell0)).trans hcell0
      obtain rfl := hp (by omega)
      have HN := Lib.hid hne
      clear hp hcells hcell0 hne
      have HQ := hq l[k] (List.getElem_mem hlt) wr hb
      clear hq
      cases hx : q l[k] with
      | true =>
        rw [hx] at HQ
        have HX := Lib.hid hx
        clear hx
        go_wp2_with (fail)
        refine HQ.mono ?_
        rintro e w1 ⟨rfl, hb1⟩
        go_wp2
        go_ret
        exact ⟨ret_int (idxBy_hit hlt HX.out HN.out).symm, hb.trans (hb1.mono hb.size)⟩
      | false =>
        rw [hx] at HQ
        have HX := Lib.hid hx
        clear hx
        go_wp2_with (fail)
        refine HQ.mono ?_
        rintro e w1 ⟨rfl, hb1⟩
        go_wp2
        go_roundw
        case rel =>
          refine ⟨k + 1, by omega, by go_num, hb.trans (hb1.mono hb.size), fun j hj hj' => ?_⟩
          by_cases e : j = k
          · subst e; exact HX.out
          · exact HN.out j hj (by omega)
        case measure => simp [intOf]; omega
    · go_wp2
      go_ret
      exact ⟨ret_int (idxBy_miss (fun j hj => hne j hj (by omega))).symm, hb⟩

theorem containsFunc_calls (l : List Txt) (v : Value) (fn : FuncId) (cap : Array Value) (q : Txt → Bool) (w : World) (h : Strs w l v)
    (eg : ∀ args w, (callFunc fn args).run Tryz.prog w = .ok (.enter fn args) w) (hq : TellsTxt w l fn cap q) :
    Calls Tryz.prog 169 #[v, .func (.func fn) #[] cap] w fun e w' => e = .returned (.bool (anyBy l q)) ∧ Below w.heap.size w w' := by
  rw [← idxBy_any]
  go_enter Tryz.func169, Tryz.ntmps169
  go_wp2_with (go_at_call 121; refine (indexFunc_calls l _ fn cap q _ h eg hq).mono ?_; rintro e w' ⟨rfl, hb⟩)
  go_ret
  exact ⟨rfl, hb⟩
end Go.Proofs.YtmepcmnpmhhiiaaGreatDoor
namespace Go.Proofs.YtmepcmnpmhhiiaaGreatDoor
open Go.RowKit
set_option linter.unusedVariables false
set_option linter.unusedSimpArgs false

def restOf (s : Txt) (a : Nat) : List UInt8 := (bytesOf s).drop a
/-- Where a run of bytes that begins at a place ends. -/
def runEnd (q : Int → Bool) (s : Txt) (a : Nat) : Nat := a + ((restOf s a).takeWhile fun b => q b.toNat).length
theorem rest_cons {s : Txt} {k : Nat} (h : k < s.size) : restOf s k = s[k] :: restOf s (k + 1) := by
  unfold restOf
  rw [List.drop_eq_getElem_cons (by rw [bytesOf_len]; exact h), bytesOf_at s k h]
theorem rest_end {s : Txt} {k : Nat} (h : s.size ≤ k) : restOf s k = [] := by
  unfold restOf; exact List.drop_eq_nil_of_le (by rw [bytesOf_len]; exact h)
theorem runEnd_stop {q : Int → Bool} {s : Txt} {k : Nat} (h : k < s.size) (hq : q (s[k].toNat) = false) : runEnd q s k = k := by
  unfold runEnd; rw [rest_cons h, List.takeWhile_cons, if_neg (by rw [hq]; simp)]; rfl
theorem runEnd_over {q : Int → Bool} {s : Txt} {k : Nat} (h : s.size ≤ k) : runEnd q s k = k := by
  unfold runEnd; rw [rest_end h]; rfl
theorem runEnd_step {q : Int → Bool} {s : Txt} {k : Nat} (h : k < s.size) (hq : q (s[k].toNat) = true) : runEnd q s k = runEnd q s (k + 1) := by
  unfold runEnd; rw [rest_cons h, List.takeWhile_cons, if_pos hq, List.length_cons]; omega
theorem runEnd_ge (q : Int → Bool) (s : Txt) (a : Nat) : a ≤ runEnd q s a := Nat.le_add_right _ _
theorem runEnd_le {q : Int → Bool} {s : Txt} {a : Nat} (h : a ≤ s.size) : runEnd q s a ≤ s.size := by
  unfold runEnd
  have h1 := (List.takeWhile_sublist (p := fun b : UInt8 => q b.toNat) (l := restOf s a)).length_le
  have h2 : (restOf s a).length = s.size - a := by unfold restOf; rw [List.length_drop, bytesOf_len]
  omega

/-- A function value that tells `q` of a byte and does nothing else. -/
def TellsByte (fn : FuncId) (q : Int → Bool) : Prop := ∀ (n : Int) (w : World), Calls Tryz.prog fn #[.int .u8 n] w fun e w' => e = .returned (.bool (q n)) ∧ w = w'

theorem run_calls (s : Txt) (a : Nat) (hs : s.size ≤ 4000) (ha : a ≤ s.size) (fn : FuncId) (q : Int → Bool) (hq : TellsByte fn q) (eg : ∀ args w, (callFunc fn args).run Tryz.prog w = .ok (.enter fn args) w) (w : World) :
    Calls Tryz.prog 115 #[.string s, .int .i64 a, .func (.func fn) #[] #[]] w fun e w' => e = .returned (.string (s.extract a (runEnd q s a))) ∧ w' = w := by
  go_enter Tryz.func115, Tryz.ntmps115
  go_wp2
  go_loop [7] (fun i => ∃ k : Nat, a ≤ k ∧ k ≤ s.size ∧ i = .int .i64 k ∧ Hid (runEnd q s k = runEnd q s a)) (fun i => s.size - (intOf i).toNat)
  case atStart => exact ⟨a, Nat.le_refl _, ha, rfl, rfl⟩
  case round =>
    obtain ⟨k, hk1, hk, rfl, HE⟩ := hrel
    by_cases hlt : k < s.size
    · have hkk : (k : Int) < (s.size : Int) := by omega
      cases hc : q (s[k].toNat) with
      | true =>
        have HX : Hid (runEnd q s (k + 1) = runEnd q s a) := by rw [← HE.out]; exact (runEnd_step hlt hc).symm
        go_wp2_with (fail)
        refine (hq _ _).mono ?_
        rintro e w1 ⟨rfl, rfl⟩
        rw [hc]
        clear hc
        go_wp2
        go_round
        case rel => exact ⟨k + 1, by omega, by omega, by go_num, HX⟩
        case measure => simp [intOf]; omega
      | false =>
        have HX : Hid (runEnd q s a = k) := by rw [← HE.out]; exact runEnd_stop hlt hc
        go_wp2_with (fail)
        refine (hq _ _).mono ?_
        rintro e w1 ⟨rfl, rfl⟩
        rw [hc]
        clear hc
        go_wp2
        go_ret
        exact ⟨by rw [HX.out]; rfl, rfl⟩
    · have HX : Hid (runEnd q s a = k) := by rw [← HE.out]; exact runEnd_over (by omega)
      go_wp2
      go_ret
      exact ⟨by rw [HX.out]; rfl, rfl⟩

def noteB (n : Int) : Bool := n != 10
def wordB (n : Int) : Bool := letterB n || digitB n
theorem noteF_calls : TellsByte 116 noteB := fun n w => by
  go_enter Tryz.func116, Tryz.ntmps116
  go_wp2
  go_ret
  exact ⟨ret_bool (by unfold noteB; rfl), rfl⟩
theorem wordF_calls : TellsByte 118 wordB := fun n w => by
  cases hl : letterB n with
  | true =>
    have HX : Hid (wordB n = true) := by unfold Hid wordB; rw [hl]; rfl
    go_enter Tryz.func118, Tryz.ntmps118
    go_wp2_with (fail)
    refine (letter_calls n _).mono ?_
    rintro e w1 ⟨rfl, rfl⟩
    rw [hl]
    clear hl
    go_wp2
    go_ret
    exact ⟨ret_bool HX.out.symm, rfl⟩
  | false =>
    have HX : Hid (wordB n = digitB n) := by unfold Hid wordB; rw [hl]; rfl
    go_enter Tryz.func118, Tryz.ntmps118
    go_wp2_with (fail)
    refine (letter_calls n _).mono ?_
    rintro e w1 ⟨rfl, rfl⟩
    rw [hl]
    clear hl
    go_wp2_with (fail)
    refine (digit_calls n _).mono ?_
    rintro e w1 ⟨rfl, rfl⟩
    go_wp2
    go_ret
    exact ⟨ret_bool HX.out.symm, rfl⟩
theorem digitF_calls : TellsByte 119 digitB := digit_calls

def signsL : List Txt := [⟨#[38, 38]⟩, ⟨#[124, 124]⟩, ⟨#[61, 61]⟩, ⟨#[33, 61]⟩, ⟨#[60, 61]⟩, ⟨#[62, 61]⟩, ⟨#[43]⟩, ⟨#[45]⟩, ⟨#[42]⟩, ⟨#[47]⟩, ⟨#[37]⟩, ⟨#[60]⟩, ⟨#[62]⟩, ⟨#[33]⟩, ⟨#[40]⟩, ⟨#[41]⟩, ⟨#[123]⟩, ⟨#[125]⟩, ⟨#[44]⟩, ⟨#[59]⟩, ⟨#[58]⟩, ⟨#[61]⟩]
def signCells : Array Value := (signsL.map Value.string).toArray
theorem signs_calls (w : World) :
    Calls Tryz.prog 122 #[] w fun e w' => e = .returned (.slice (some ⟨w.heap.size, 0, none⟩) 22 22) ∧ w' = w.alloc (.cells signCells 9) := by
  go_enter Tryz.func122, Tryz.ntmps122
  go_wp2
  go_ret
  exact ⟨rfl, rfl⟩
theorem signs_strs (w : World) : Strs (w.alloc (.cells signCells 9)) signsL (.slice (some ⟨w.heap.size, 0, none⟩) 22 22) := strs_new w signsL 9 (by decide)

/-- Does a sign begin there? -/
def signAt (s : Txt) (a : Nat) (x : Txt) : Bool := Lib.hasPrefix (restOf s a) x.data.toList
theorem sign_eq (s x : Txt) (a : Nat) : Lib.hasPrefix (List.take (s.size - a) (List.drop a s.data.toList)) x.data.toList = signAt s a x := by
  unfold signAt restOf bytesOf
  rw [List.take_of_length_le (by rw [List.length_drop, Array.length_toList]; exact Nat.le_refl _)]
theorem signF_calls (s x : Txt) (a : Nat) (ha : a ≤ s.size) (g1 g2 : Nat) (w : World) (h1 : w.cell? ⟨g1, 0, none⟩ = some (.string s)) (h2 : w.cell? ⟨g2, 0, none⟩ = some (.int .i64 a)) :
    Calls Tryz.prog 123 #[.string x, .pointer (some ⟨g1, 0, none⟩), .pointer (some ⟨g2, 0, none⟩)] w fun e w' => e = .returned (.bool (signAt s a x)) ∧ w' = w := by
  go_enter Tryz.func123, Tryz.ntmps123
  go_wp2_with (fail)
  refine (Tryz.strings_HasPrefix _ _ _).mono ?_
  rintro e w1 ⟨rfl, rfl⟩
  go_wp2
  go_ret
  exact ⟨ret_bool (sign_eq s x a), rfl⟩
end Go.Proofs.YtmepcmnpmhhiiaaGreatDoor
namespace Go.Proofs.YtmepcmnpmhhiiaaGreatDoor
open Go.RowKit
set_option linter.unusedVariables false
set_option linter.unusedSimpArgs false

/-- Data one behind the other, each of `k` cells. -/
def Rows {α : Type} (E : Enc α) (k : Nat) (w : World) : List α → List Value → Prop
  | [], vs => vs = []
  | x :: l, vs => ∃ us us', vs = us ++ us' ∧ E w x us ∧ us.length = k ∧ Rows E k w l us'
/-- What holds a datum are plain cells. -/
def Plain {α : Type} (E : Enc α) : Prop := ∀ w x vs, E w x vs → ∀ u ∈ vs, u.oneCell' = true

section
variable {α β : Type} {E : Enc α} {F : Enc β} {k : Nat} {w w' : World}
theorem Rows.length : ∀ {l : List α} {vs : List Value}, Rows E k w l vs → vs.length = l.length * k
  | [], _, h => by have h' : _ = [] := h; subst h'; simp
  | x :: l, vs, h => by
    obtain ⟨us, us', rfl, _, h1, h2⟩ := h
    have := Rows.length h2
    simp [this, h1, Nat.add_mul, Nat.add_comm]
theorem Rows.append : ∀ {l m : List α} {vs us : List Value}, Rows E k w l vs → Rows E k w m us → Rows E k w (l ++ m) (vs ++ us)
  | [], m, vs, us, h, h' => by have e : vs = [] := h; subst e; simpa using h'
  | x :: l, m, vs, us, h, h' => by
    obtain ⟨a, b, rfl, h1, h2, h3⟩ := h
    exact ⟨a, b ++ us, by rw [List.append_assoc], h1, h2, Rows.append h3 h'⟩
theorem Rows.one {x : α} {vs : List Value} (h : E w x vs) (hk : vs.length = k) : Rows E k w [x] vs := ⟨vs, [], by simp, h, hk, rfl⟩
theorem Rows.stays (hE : Stays E) (hk : Keeps w w') : ∀ {l : List α} {vs : List Value}, Rows E k w l vs → Rows E k w' l vs
  | [], _, h => h
  | x :: l, vs, h => by
    obtain ⟨a, b, rfl, h1, h2, h3⟩ := h
    exact ⟨a, b, rfl, hE _ _ _ _ hk h1, h2, Rows.stays hE hk h3⟩
theorem Rows.at : ∀ {l : List α} {vs : List Value}, Rows E k w l vs → ∀ i (hi : i < l.length), ∃ us, E w l[i] us ∧ us.length = k ∧ ∀ j x, us[j]? = some x → vs[i * k + j]? = some x
  | [], _, _, i, hi => absurd hi (by simp)
  | x :: l, vs, h, 0, _ => by
    obtain ⟨a, b, rfl, h1, h2, h3⟩ := h
    refine ⟨a, h1, h2, fun j y hy => ?_⟩
    have := (List.getElem?_eq_some_iff.1 hy).1
    rw [Nat.zero_mul, Nat.zero_add, List.getElem?_append_left this]
    exact hy
  | x :: l, vs, h, i + 1, hi => by
    obtain ⟨a, b, rfl, h1, h2, h3⟩ := h
    obtain ⟨us, g1, g2, g3⟩ := Rows.at h3 i (by simpa using hi)
    refine ⟨us, g1, g2, fun j y hy => ?_⟩
    rw [List.getElem?_append_right (by rw [h2, Nat.add_mul]; omega), h2, show (i + 1) * k + j - k = i * k + j by rw [Nat.add_mul]; omega]
    exact g3 j y hy
theorem Rows.plain (hE : Plain E) : ∀ {l : List α} {vs : List Value}, Rows E k w l vs → ∀ u ∈ vs, u.oneCell' = true
  | [], _, h => by have e : _ = [] := h; subst e; intro u hu; cases hu
  | x :: l, vs, h => by
    obtain ⟨a, b, rfl, h1, h2, h3⟩ := h
    intro u hu
    rcases List.mem_append.1 hu with hu | hu
    · exact hE _ _ _ h1 u hu
    · exact Rows.plain hE h3 u hu
theorem Rows.of_at (hk : 0 < k) : ∀ (l : List α) (vs : List Value), vs.length = l.length * k → (∀ i (hi : i < l.length), ∃ us, E w l[i] us ∧ us.length = k ∧ ∀ j x, us[j]? = some x → vs[i * k + j]? = some x) → Rows E k w l vs
  | [], vs, h, _ => List.eq_nil_of_length_eq_zero (by simpa using h)
  | x :: l, vs, h, hi => by
    obtain ⟨us, g1, g2, g3⟩ := hi 0 (by simp)
    have hl : k ≤ vs.length := by rw [h]; simp [Nat.add_mul]
    have e : us = vs.take k := by
      apply List.ext_getElem
      · simp; omega
      · intro j h1 h2
        have := g3 j us[j] (List.getElem?_eq_getElem h1)
        rw [Nat.zero_mul, Nat.zero_add] at this
        have h3 := (List.getElem?_eq_some_iff.1 this).2
        simp [h3]
    refine ⟨us, vs.drop k, by rw [e, List.take_append_drop], g1, g2, Rows.of_at hk l _ (by simp [h, Nat.add_mul]) fun i hi' => ?_⟩
    obtain ⟨us', f1, f2, f3⟩ := hi (i + 1) (by simpa using hi')
    refine ⟨us', by simpa using f1, f2, fun j y hy => ?_⟩
    rw [List.getElem?_drop, show k + (i * k + j) = (i + 1) * k + j by rw [Nat.add_mul]; omega]
    exact f3 j y hy

theorem One.plain {f : α → Value} (h : ∀ x, (f x).oneCell' = true) : Plain (One f) := fun w x vs e u hu => by
  have e' : vs = [f x] := e
  subst e'
  simp at hu
  subst hu
  exact h x
theorem txt_plain : Plain txt := One.plain fun _ => rfl
theorem num_plain : Plain num := One.plain fun _ => rfl
theorem Sl.plain {j : Nat} : Plain (Sl E j) := fun w x vs e u hu => by
  obtain ⟨v, rfl, p, c, rfl, _⟩ := e
  simp at hu
  subst hu
  rfl
theorem Both.plain (hE : Plain E) (hF : Plain F) : Plain (Both E F) := fun w x vs e u hu => by
  obtain ⟨a, b, rfl, h1, h2⟩ := e
  rcases List.mem_append.1 hu with hu | hu
  · exact hE _ _ _ h1 u hu
  · exact hF _ _ _ h2 u hu

/-- How a datum lies does not hang on the world. -/
def Free {α : Type} (E : Enc α) : Prop := ∀ w w' x vs, E w x vs → E w' x vs
theorem One.free (f : α → Value) : Free (One f) := fun _ _ _ _ h => h
theorem Both.free (hE : Free E) (hF : Free F) : Free (Both E F) := fun _ _ _ _ ⟨a, b, e, h1, h2⟩ => ⟨a, b, e, hE _ _ _ _ h1, hF _ _ _ _ h2⟩
theorem Rows.free (hE : Free E) : ∀ {l : List α} {vs : List Value}, Rows E k w l vs → Rows E k w' l vs
  | [], _, h => h
  | x :: l, vs, h => by
    obtain ⟨a, b, rfl, h1, h2, h3⟩ := h
    exact ⟨a, b, rfl, hE _ _ _ _ h1, h2, Rows.free hE h3⟩
theorem cell_keep (hk : Keeps w w') {ad : Addr} {u : Value} (h : w.cell? ad = some u) : w'.cell? ad = some u := by
  obtain ⟨b, o, sp⟩ := ad
  have hs : sp = none := by simpa using World.cell?_spot h
  subst hs
  exact hk.2 b o _ h

/-- A slice's cells, one behind the other. -/
theorem SliceOf.rows (hk : 0 < k) {l : List α} {v : Value} (h : SliceOf E k w l v) : ∃ p c vs, v = .slice p l.length c ∧ l.length ≤ c ∧ c ≤ 9223372036854775807 ∧ Rows E k w l vs ∧ (p = none → l.length = 0) ∧
    ∀ ad : Addr, p = some ad → ∀ (j : Nat) (u : Value), vs[j]? = some u → w.cell? (ad.add j) = some u := by
  obtain ⟨p, c, rfl, h1, h2, h3⟩ := h
  rcases h3 with rfl | ⟨b, o, rfl, h3⟩
  · exact ⟨p, c, [], rfl, h1, by unfold maxLen at h2; omega, rfl, fun _ => rfl, fun _ _ j u hu => by simp at hu⟩
  · have : ∀ (n : Nat), n ≤ l.length → ∃ vs : List Value, Rows E k w (l.take n) vs ∧ ∀ (j : Nat) (u : Value), vs[j]? = some u → w.cell? ⟨b, o + j, none⟩ = some u := by
      intro n
      induction n with
      | zero => exact fun _ => ⟨[], rfl, fun j u hu => by simp at hu⟩
      | succ n ih =>
        intro hn
        obtain ⟨vs, g1, g2⟩ := ih (by omega)
        obtain ⟨us, f1, f2, f3⟩ := h3 n (by omega)
        refine ⟨vs ++ us, by rw [List.take_succ_eq_append_getElem (by omega)]; exact g1.append (.one f1 f2), fun j u hu => ?_⟩
        have hl : vs.length = n * k := by rw [g1.length, List.length_take, Nat.min_eq_left (by omega)]
        by_cases hj : j < vs.length
        · rw [List.getElem?_append_left hj] at hu
          exact g2 j u hu
        · rw [List.getElem?_append_right (by omega), hl] at hu
          have := f3 _ _ hu
          rw [show o + n * k + (j - n * k) = o + j by omega] at this
          exact this
    obtain ⟨vs, g1, g2⟩ := this l.length (Nat.le_refl _)
    rw [List.take_length] at g1
    refine ⟨_, c, vs, rfl, h1, by unfold maxLen at h2; omega, g1, fun e => by simp at e, fun ad e j u hu => ?_⟩
    simp only [Option.some.injEq] at e
    subst e
    rw [Go.WideShapes.add_plain]
    exact g2 j u hu
/-- What a call owns, as data. -/
theorem SliceOf.of_rows {l : List α} {base : Nat} {e : TypeId} {v : Value} {xs : List Value} (h : w.ownsRow base e k v l.length xs) (hr : Rows E k w l xs) : SliceOf E k w l v := by
  obtain ⟨hl, h⟩ := h
  rcases h with ⟨rfl, hn⟩ | ⟨g, cap, cur, rfl, _, hh, h1, h2, h3, h4⟩
  · exact ⟨none, 0, by rw [hn], by omega, by unfold maxLen; omega, Or.inl (List.length_eq_zero_iff.1 hn)⟩
  · refine ⟨_, cap, rfl, h1, h2, Or.inr ⟨g, 0, rfl, fun i hi => ?_⟩⟩
    obtain ⟨vs, e1, e2, e3⟩ := hr.at i hi
    refine ⟨vs, e1, e2, fun j x hx => ?_⟩
    have := e3 j x hx
    rw [← h4, List.getElem?_take] at this
    split at this
    · simpa [World.cell?, hh] using this
    · cases this
end

theorem own_below {w w' : World} {base : Nat} {e : TypeId} {size : Nat} {v : Value} {n : Nat} {xs : List Value} (h : w.ownsRow base e size v n xs) (hb : Below w.heap.size w w') : w'.ownsRow base e size v n xs :=
  h.kept (row := none) ⟨hb.os, hb.tape, hb.output, hb.size, fun q hq _ => hb.block q hq⟩ (by
    cases h : v.ownBlock with
    | none => exact .inl rfl
    | some g => exact .inr (by simp))
section
variable {P : Program} (w : World)
theorem run_append_nilsrc (base : Nat) (t ty e : TypeId) (i : TypeInfo) (size : Nat) (ht : P.underlying t = some (.slice e)) (hi : P.info? e = some i)
    (v : Value) (n : Nat) (xs : List Value) (hown : w.ownsRow base e size v n xs) (c : Nat) : (Builtin.append_ #[t, t] ty #[v, .slice none 0 c]).run P w = .ok v w := by
  rcases hown.2 with ⟨rfl, rfl⟩ | ⟨g, cap, cur, rfl, _, _, hnc, _⟩
  · simp [Builtin.append_, run_underlying ht, sizeOf, typeInfo, hi, Builtin.lenOf, Builtin.firstCells]
  · simp [Builtin.append_, run_underlying ht, sizeOf, typeInfo, hi, Builtin.lenOf, Builtin.firstCells, hnc, storeCells]
/-- append onto a row of the call's own, of a slice that is nil or not. -/
theorem wpList_append_src {ops : Array Oper} {rest : List Oper} {o : Oper} {a : Act} {Q : Exit → Act → World → Prop} (hgd : o.guard = none) (s x : Operand) (t : TypeId)
    (ho : o.op = .call { callee := .builtin .append, args := #[s, x], argTypes := #[t, t] })
    (base : Nat) (e : TypeId) (i : TypeInfo) (z : Value) (size bytes : Nat) (ht : P.underlying t = some (.slice e)) (hi : P.info? e = some i) (hz : i.zero = some z)
    (hsize : i.size = size) (hby : i.bytes = bytes) (hzs : z.cells.size = size) (hsz : 0 < size)
    (v : Value) (n : Nat) (xs : List Value) (hs : a.eval s = v) (hown : w.ownsRow base e size v n xs)
    (p : Option Addr) (m c : Nat) (news : List Value) (hx : a.eval x = .slice p m c) (hl : news.length = m * size) (hp : p = none → m = 0)
    (hnews : ∀ ad : Addr, p = some ad → ∀ (j : Nat) (u : Value), news[j]? = some u → w.cell? (ad.add j) = some u) (h1 : ∀ u ∈ news, u.oneCell' = true)
    (h63 : n + m ≤ maxLen) (hbytes : (n + m) * bytes ≤ 140737488355328) (hbase : base ≤ w.heap.size)
    (h : ∀ v' w', w'.ownsRow base e size v' (n + m) (xs ++ news) → w.grownBy w' v.ownBlock → wpList P ops Q rest (a.put o.dst v') w') : wpList P ops Q (o :: rest) a w := by
  rcases p with _ | ad
  · have hm := hp rfl
    subst hm
    have hn : news = [] := List.eq_nil_of_length_eq_zero (by simpa using hl)
    subst hn
    refine Lib.wpList_append_run w hgd s x t t ho v (.slice none 0 c) hs hx v w (run_append_nilsrc w base t o.type e i size ht hi v n xs hown c) ?_
    exact h v w (by simpa using hown) (World.grownBy.refl w _)
  · exact wpList_append_own w hgd s x t ho base e i z size bytes ht hi hz hsize hby hzs hsz v n xs hs hown ad m c news hx hl (hnews ad rfl) h1 h63 hbytes hbase fun v' w' h2 h3 _ => h v' w' h2 h3
end
end Go.Proofs.YtmepcmnpmhhiiaaGreatDoor
namespace Go.Proofs.YtmepcmnpmhhiiaaGreatDoor
open Go.RowKit
section
variable {P : Program} {ops : Array Oper} {w : World}
theorem still_of_quiet {o : Oper} {a : Act} {K : Act → Prop} (h : o.quiet P a (fun w' => w' = w) K) : o.still P a w K := by
  obtain ⟨v, h1, h2⟩ := h
  have h3 := h1 w rfl
  unfold Oper.quietAt at h3
  unfold Oper.still
  generalize (execOp a.eval o).run P w = r at h3 ⊢
  unfold Oper.quietUpon at h3
  unfold Oper.stillUpon
  split at h3
  · obtain ⟨rfl, rfl⟩ := h3
    exact ⟨rfl, h2⟩
  · obtain ⟨rfl, rfl⟩ := h3
    exact ⟨rfl, h2⟩
  · obtain ⟨rfl, h4⟩ := h3
    exact ⟨rfl, v, h4, h2⟩
  · exact h3.elim
theorem wpStill_of_quiet {Q : Act → Prop} : ∀ (l : List Oper) (a : Act), wpQuiet P ops (fun w' => w' = w) Q l a → wpStill P ops w Q l a
  | [], _, h => h
  | o :: l, a, h => by
    unfold wpQuiet at h
    unfold wpStill
    split
    · rename_i hw
      rw [if_pos hw] at h
      exact Oper.still_mono (fun a' h' => wpStill_of_quiet l a' h') (still_of_quiet h)
    · rename_i hw
      rw [if_neg hw] at h
      exact wpStill_of_quiet l _ h
theorem wp_region_calm_tail {id : Nat} {Q : Exit → Act → World → Prop} {a : Act} {l : List Oper} (n : Nat) (hm : P.follows .mixedOrders = true) (hB : Region.lexTailB .any l.toArray n = true)
    (h : wpQuiet P l.toArray (fun w' => w' = w.drew) (fun a' => wpList P l.toArray Q (l.drop n) a' w.drew) (l.take n) a) : (Code.region id l.toArray true).wp P Q a w :=
  wp_region_still_tail n hm hB (wpStill_of_quiet _ _ h)

/-! The same over a class of worlds: what calls in the head leave behind may be any world of the class, if their values are the same in all of them. -/
variable {md : Region.Mode} {C : World → Prop}

/-- The head of a region, its first `n` operations in whatever order, in the class. -/
def headQ (P : Program) (md : Region.Mode) (ops : Array Oper) (C : World → Prop) (n : Nat) (L : Array Bool → Act → Prop) : Nat → Array Bool → Act → Prop
  | 0, done, a => L done a
  | f + 1, done, a => Region.ready md ops done ≠ [] ∧ ∀ i ∈ Region.ready md ops done, i < n ∧ qOp P ops C i (headQ P md ops C n L f (done.setIfInBounds i true)) a

theorem headQ_any {n g : Nat} {L : Array Bool → Act → Prop} {Q' : Exit → Act → World → Prop} (hL : ∀ done a w, C w → L done a → wpAny P md ops Q' g done a w) :
    ∀ (f : Nat) (done : Array Bool) (a : Act) (w : World), C w → headQ P md ops C n L f done a → wpAny P md ops Q' (f + g) done a w
  | 0, done, a, w, hw, h => by rw [Nat.zero_add]; exact hL _ _ _ hw h
  | f + 1, done, a, w, hw, h => by
    rw [show f + 1 + g = (f + g) + 1 by omega]
    exact ⟨fun h0 => absurd h0 h.1, fun i hi => wpOp_of_qOp hw (fun a' w' hw' h' => headQ_any hL f _ a' w' hw' h') (h.2 i hi).2⟩

/-- Each of the first `n` operations, but for the first `k0`, is waited for by one behind it, up to number `n`. -/
def sinkK (md : Region.Mode) (ops : Array Oper) (k0 n : Nat) : Bool :=
  (List.range n).all fun i => decide (i < k0) || (List.range (n + 1)).any fun j => decide (i < j) && Region.waitsFor md ops j i
/-- The first `k0` are done. -/
def Early (k0 : Nat) (done : Array Bool) : Prop := ∀ i, i < k0 → done.getD i true = true ∧ done.getD i false = true

theorem Early.set {k0 j : Nat} {done : Array Bool} (h : Early k0 done) : Early k0 (done.setIfInBounds j true) := by
  intro i hi
  obtain ⟨h1, h2⟩ := h i hi
  by_cases e : j = i
  · subst e
    have hs : j < done.size := by
      apply Decidable.byContradiction
      intro hn
      rw [Array.getD_eq_getD_getElem?, Array.getElem?_eq_none (by omega)] at h2
      cases h2
    constructor <;> simp [hs]
  · exact ⟨by rw [getD_set_ne true e]; exact h1, by rw [getD_set_ne false e]; exact h2⟩

theorem tail_waitsK {k0 n : Nat} {done : Array Bool} (hs : sinkK md ops k0 n = true) (hc : Region.chainB md ops n = true) (hn : n < ops.size) (inv : HeadInv md ops n done) (he : Early k0 done) :
    ∀ (d i : Nat), n - i = d → i < n → done.getD i true = false → ∀ t, n ≤ t → t ∉ Region.ready md ops done := by
  intro d
  induction d using Nat.strongRecOn with
  | _ d ih =>
    intro i hd hi hun t ht hr
    have hik : ¬ i < k0 := fun h => by rw [(he i h).1] at hun; cases hun
    obtain ⟨_, ot, hot, hall⟩ := mem_ready.1 hr
    have htlt : t < ops.size := (Array.getElem?_eq_some_iff.1 hot).1
    by_cases htn : t = n
    · subst htn
      have h1 := List.all_eq_true.1 hs i (List.mem_range.2 hi)
      rw [Bool.or_eq_true, decide_eq_true_eq] at h1
      obtain ⟨j, hj, hj2⟩ := List.any_eq_true.1 (h1.resolve_left hik)
      simp only [Bool.and_eq_true, decide_eq_true_eq] at hj2
      obtain ⟨oj, hoj, e, hel, hb, hon⟩ := Region.waitsFor_spec hj2.2
      have hjle : j ≤ t := by have := List.mem_range.1 hj; omega
      by_cases hjt : j = t
      · subst hjt
        have : oj = ot := Option.some.inj (hoj.symm.trans hot)
        subst this
        have h2 := hall e hel hb
        rw [hon, getD_both hun] at h2
        cases h2
      · cases hl : done.getD j false with
        | true =>
          have h2 := inv.closed j oj hoj hl e hel hb
          rw [hon, getD_both hun] at h2
          cases h2
        | false =>
          have hjs : j < done.size := by rw [inv.size]; omega
          exact ih (t - j) (by omega) j rfl (by omega) (getD_in hjs hl) t (Nat.le_refl _) hr
    · have h1 := List.all_eq_true.1 hc t (List.mem_range.2 htlt)
      simp only [Bool.or_eq_true, decide_eq_true_eq] at h1
      rcases h1 with h1 | h1
      · omega
      · obtain ⟨o', ho', e, hel, hb, hon⟩ := Region.waitsFor_spec h1
        have : o' = ot := Option.some.inj (ho'.symm.trans hot)
        subst this
        have h2 := hall e hel hb
        rw [hon, getD_both (inv.tail (t - 1) (by omega) (by omega))] at h2
        cases h2

theorem headQ_first {k0 n i : Nat} {oi : Oper} {v : Value} {L : Array Bool → Act → Prop} (hi : ops[i]? = some oi) (hsel : ∀ (j : Nat) (o : Oper) cs b, ops[j]? = some o → o.op ≠ .select cs b)
    (hs : sinkK md ops k0 n = true) (hc : Region.chainB md ops n = true) (hn : n < ops.size) (hin : i < n) (hend : ∀ done a, L done a → ∀ j ∈ Region.ready md ops done, n ≤ j) :
    ∀ (f : Nat) (done : Array Bool) (a : Act), HeadInv md ops n done → Early k0 done →
      (∀ j oj, ops[j]? = some oj → j ≠ i → done.getD j true = false → (∀ e ∈ oj.after, Region.binds md e = true → e.on ≠ i) → oi.apart ops oj = true) →
      i ∈ Region.ready md ops done → YieldsIn P ops C oi v a →
      headQ P md ops C n L f (done.setIfInBounds i true) (a.put oi.dst v) → headQ P md ops C n L (f + 1) done a := by
  intro f
  induction f with
  | zero =>
    intro done a inv he _ hr hy H
    have open_i := (mem_ready.1 hr).1
    refine ⟨List.ne_nil_of_mem hr, fun j hj => ?_⟩
    have hjn : j < n := Nat.lt_of_not_le fun h => tail_waitsK hs hc hn inv he _ i rfl hin open_i j h hj
    by_cases hji : j = i
    · subst hji; exact ⟨hjn, hy.qOp hi H⟩
    · exact absurd (hend _ _ H j (ready_mono hj hji)) (by omega)
  | succ f ih =>
    intro done a inv he hfree hr hy H
    have open_i := (mem_ready.1 hr).1
    refine ⟨List.ne_nil_of_mem hr, fun j hj => ?_⟩
    have hjn : j < n := Nat.lt_of_not_le fun h => tail_waitsK hs hc hn inv he _ i rfl hin open_i j h hj
    by_cases hji : j = i
    · subst hji; exact ⟨hjn, hy.qOp hi H⟩
    · have next := (H.2 j (ready_mono hj hji)).2
      obtain ⟨open_j, oj, hoj, hall⟩ := mem_ready.1 hj
      have hnot : ∀ e ∈ oj.after, Region.binds md e = true → e.on ≠ i := fun e he hb heq => by
        have h1 := hall e he hb
        rw [heq, getD_both open_i] at h1
        cases h1
      have moved := qOp_put hoj (hfree j oj hoj hji open_j hnot) (fun cs b => hsel i oi cs b hi) (fun cs b => hsel j oj cs b hoj) hy next
      refine ⟨hjn, qOp_mono (fun a' h3 => ih (done.setIfInBounds j true) a' (inv.set hj hjn) he.set (fun k ok hk hki hun hno => ?_) (ready_mono hr (Ne.symm hji)) h3.1 ?_) moved⟩
      · refine hfree k ok hk hki ?_ hno
        by_cases hjk : j = k
        · subst hjk; exact open_j
        · rw [getD_set_ne true hjk] at hun; exact hun
      · rw [Array.setIfInBounds_comm _ _ hji]
        exact h3.2

theorem headQ_lex {k0 n g : Nat} {Lq : Act → Prop} (hsel : Region.noSelect ops = true) (hs : sinkK md ops k0 n = true) (hc : Region.chainB md ops n = true) (hn : n < ops.size) :
    ∀ (l : List Oper) (k : Nat) (done : Array Bool) (a : Act), (∀ j, j < l.length → l[j]? = ops[k + j]?) → k + l.length = n → HeadInv md ops n done → Early k0 done →
    Region.lexHead md ops g l.length k done = true → wpQuiet P ops C Lq l a →
    headQ P md ops C n (fun done' a' => Region.seqB md ops g n done' = true ∧ Lq a') l.length done a
  | [], k, done, a, _, hk, _, _, hB, h => by
    have : k = n := by simpa using hk
    subst this
    exact ⟨by simpa [Region.lexHead] using hB, h⟩
  | o :: l, k, done, a, hl, hk, inv, he, hB, h => by
    have h0 : ops[k]? = some o := by simpa using (hl 0 (by simp)).symm
    simp only [List.length_cons, Region.lexHead, Bool.and_eq_true] at hB
    simp only [List.length_cons] at hk
    have hr : k ∈ Region.ready md ops done := by simpa using hB.1.1
    have hst : qOp P ops C k (wpQuiet P ops C Lq l) a := by unfold qOp; simp only [h0]; exact h
    obtain ⟨v, hy, hK⟩ := yieldsIn_of_qOp h0 hst
    exact headQ_first h0 (Region.noSelect_spec hsel) hs hc hn (by omega) (fun done' a' hL => seqB_ready hL.1) l.length done a inv he (Region.free_spec h0 hB.1.2) hr hy
      (headQ_lex hsel hs hc hn l (k + 1) _ _ (fun j hj => by have := hl (j + 1) (by simp; omega); simpa [Nat.add_assoc, Nat.add_comm 1 j] using this) (by omega) (inv.set hr (by omega)) he.set hB.2 hK)

/-- From a state in which the first `k0` operations are done. -/
theorem wpAny_mild {Q : Exit → Act → World → Prop} {a : Act} {l : List Oper} (k0 n : Nat) (D : Array Bool) (C : World → Prop) (hk : k0 ≤ n) (hsel : Region.noSelect l.toArray = true) (hn : n < l.toArray.size)
    (hs : sinkK .any l.toArray k0 n = true) (hc : Region.chainB .any l.toArray n = true) (inv0 : HeadInv .any l.toArray n D) (he : Early k0 D)
    (hlex : Region.lexHead .any l.toArray (l.toArray.size - n) (n - k0) k0 D = true) (hC : C w)
    (h : wpQuiet P l.toArray C (fun a' => ∀ w', C w' → wpList P l.toArray Q (l.drop n) a' w') ((l.take n).drop k0) a) : wpAny P .any l.toArray Q (l.toArray.size - k0) D a w := by
  have hn' : n < l.length := by simpa using hn
  have htl : ((l.take n).drop k0).length = n - k0 := by rw [List.length_drop, List.length_take, Nat.min_eq_left (by omega)]
  have hdl : (l.drop n).length = l.toArray.size - n := by simp
  have H := headQ_lex (P := P) (C := C) (md := .any) (k0 := k0) (g := l.toArray.size - n) hsel hs hc hn ((l.take n).drop k0) k0 D a (fun j hj => by
    rw [htl] at hj
    rw [List.getElem?_drop, List.getElem?_take, if_pos (by omega)]
    simp) (by rw [htl]; omega) inv0 he (by rw [htl]; exact hlex) h
  have := headQ_any (Q' := Q) (g := l.toArray.size - n) (fun done a' w' hw' hL => by
    have := wpAny_of_seq (md := .any) (Q' := Q) (l.drop n) n done a' w' (fun j => by simp [List.getElem?_drop]) (by rw [hdl]; exact hL.1) (hL.2 w' hw')
    rwa [hdl] at this) _ _ _ w hC H
  rw [htl, show n - k0 + (l.toArray.size - n) = l.toArray.size - k0 by simp; omega] at this
  exact this

theorem headInv_start (l : List Oper) (n : Nat) : HeadInv .any l.toArray n (Array.replicate l.toArray.size false) :=
  ⟨by simp, fun j oj _ hl => (by rw [getD_replicate_false] at hl; cases hl), fun t _ ht => getD_in (by simpa using ht) (getD_replicate_false _ _)⟩

def mildB (l : List Oper) (n : Nat) : Bool :=
  Region.noSelect l.toArray && decide (n < l.toArray.size) && sinkK .any l.toArray 0 n && Region.chainB .any l.toArray n && Region.lexHead .any l.toArray (l.toArray.size - n) n 0 (Array.replicate l.toArray.size false)
/-- A region that draws its order: its first `n` operations yield the same in every world of a class, and leave a world of the class; then its last ones, in their order. -/
theorem wp_region_mild_tail {id : Nat} {Q : Exit → Act → World → Prop} {a : Act} {l : List Oper} (n : Nat) (C : World → Prop) (hm : P.follows .mixedOrders = true) (hB : mildB l n = true) (hC : C w.drew)
    (h : wpQuiet P l.toArray C (fun a' => ∀ w', C w' → wpList P l.toArray Q (l.drop n) a' w') (l.take n) a) : (Code.region id l.toArray true).wp P Q a w := by
  simp only [mildB, Bool.and_eq_true, decide_eq_true_eq] at hB
  obtain ⟨⟨⟨⟨hsel, hn⟩, hs⟩, hc⟩, hlex⟩ := hB
  exact wp_region_any hm (wpAny_mild (w := w.drew) 0 n _ C (Nat.zero_le _) hsel hn hs hc (headInv_start l n) (fun i hi => absurd hi (Nat.not_lt_zero _)) hlex hC h)

def movedB (l : List Oper) (n : Nat) : Bool :=
  Region.noSelect l.toArray && decide (n < l.toArray.size) && sinkK .any l.toArray 1 n && Region.chainB .any l.toArray n && decide (1 ≤ n) &&
    (Region.ready .any l.toArray (Array.replicate l.toArray.size false)).contains 0 && Region.free .any l.toArray (Array.replicate l.toArray.size false) 0 &&
    Region.lexHead .any l.toArray (l.toArray.size - n) (n - 1) 1 ((Array.replicate l.toArray.size false).setIfInBounds 0 true)
/-- The same behind a first operation that moves a value: it may be taken first. -/
theorem wp_region_moved_tail {id : Nat} {Q : Exit → Act → World → Prop} {a : Act} {o : Oper} {l : List Oper} {x : Operand} (n : Nat) (C : World → Prop) (hm : P.follows .mixedOrders = true) (ho : o.op = .move x) (hg : o.guard = none)
    (hQ : ∀ c (a' : Act) v w, Q (.panic c) (a'.put o.dst v) w → Q (.panic c) a' w) (hB : movedB (o :: l) n = true) (hC : C w.drew)
    (h : wpQuiet P (o :: l).toArray C (fun a' => ∀ w', C w' → wpList P (o :: l).toArray Q ((o :: l).drop n) a' w') (((o :: l).take n).drop 1) (a.put o.dst (a.eval x))) : (Code.region id (o :: l).toArray true).wp P Q a w := by
  simp only [movedB, Bool.and_eq_true, decide_eq_true_eq] at hB
  obtain ⟨⟨⟨⟨⟨⟨⟨hsel, hn⟩, hs⟩, hc⟩, h1⟩, hr⟩, hf⟩, hlex⟩ := hB
  have hr' : 0 ∈ Region.ready .any (o :: l).toArray (Array.replicate (o :: l).toArray.size false) := by simpa using hr
  have hsz : (o :: l).toArray.size = ((o :: l).toArray.size - 1) + 1 := by simp
  refine wp_region_any hm ?_
  rw [hsz]
  refine wpAny_first (i := 0) (oi := o) (v := a.eval x) (by simp) (Region.noSelect_spec hsel) (fun c a' w' h' => hQ c a' _ w' h') _ _ _ _ (Region.free_spec (by simp) hf) hr' (.inl ⟨by simp [Region.wanted, hg], fun w' => BigFrame.run_move x ho w'⟩) ?_
  · exact wpAny_mild (w := w.drew) 1 n _ C h1 hsel hn hs hc ((headInv_start (o :: l) n).set hr' (by omega)) (fun i hi => by
      have : i = 0 := by omega
      subst this
      simp) hlex hC h
end

/-- All worlds in which old memory stands, as the values of a function: so that what holds of its cells is a plain equation. -/
theorem exists_ext (W : World) : ∃ ext : World → World, (∀ x, Below W.heap.size W (ext x)) ∧ ∀ w', Below W.heap.size W w' → w' = ext w' := by
  classical
  refine ⟨fun x => if Below W.heap.size W x then x else W, fun x => ?_, fun w' h => ?_⟩
  · show Below W.heap.size W (if Below W.heap.size W x then x else W)
    split
    · assumption
    · exact Below.refl _ _
  · show w' = if Below W.heap.size W w' then w' else W
    rw [if_pos h]
end Go.Proofs.YtmepcmnpmhhiiaaGreatDoor
namespace Go.Proofs.YtmepcmnpmhhiiaaGreatDoor
open Go.RowKit
set_option linter.unusedVariables false
set_option linter.unusedSimpArgs false

/-- A token: its kind, its place, its text. -/
abbrev Tok := Int × Int × Txt
def tokE : Enc Tok := Both num (Both num txt)
theorem tok_stays : Stays tokE := Both.stays (One.stays _) (Both.stays (One.stays _) (One.stays _))
abbrev Toks (w : World) (l : List Tok) (v : Value) : Prop := SliceOf tokE 3 w l v
theorem Toks.stays {w w' : World} (hk : Keeps w w') {l : List Tok} {v : Value} (h : Toks w l v) : Toks w' l v := SliceOf.stays tok_stays hk h
def okTok : Tok → Prop := okBoth okNum (okBoth okNum okTxt)
def szTok : Tok → Nat := szBoth szOne (szBoth szOne szTxt)
theorem rdTok : Rd Tryz.prog 153 tokE okTok szTok :=
  Rd.struct (tot := 3) Tryz.underlying153 (by kernel_rfl) (Rdf.cons (k := 1) (o' := 1) rfl rfl (by kernel_rfl) rfl (Rd.num Tryz.underlying3) (Rdf.cons (k := 1) (o' := 2) rfl rfl (by kernel_rfl) rfl (Rd.num Tryz.underlying3) (Rdf.last (k := 1) rfl rfl (by kernel_rfl) (Rd.txt Tryz.underlying9))))
theorem rdToks : Rd Tryz.prog 79 (Sl tokE 3) (okList okTok) (szList szTok) := Rd.slice Tryz.underlying79 (by decide) (by kernel_rfl) rdTok
theorem Toks.cells {w : World} {l : List Tok} {v : Value} (h : Toks w l v) :
    ∃ b o c p, v = .slice p l.length c ∧ l.length ≤ c ∧ c ≤ 9223372036854775807 ∧ (0 < l.length → p = some ⟨b, o, none⟩) ∧
      ∀ (i : Nat) (h : i < l.length), w.cell? ⟨b, o + i * 3, none⟩ = some (.int .i64 l[i].1) ∧ w.cell? ⟨b, o + i * 3 + 1, none⟩ = some (.int .i64 l[i].2.1) ∧ w.cell? ⟨b, o + i * 3 + 2, none⟩ = some (.string l[i].2.2) := by
  obtain ⟨p, c, e, h1, h2, h3⟩ := h
  unfold maxLen at h2
  rcases h3 with rfl | ⟨b, o, hp, h3⟩
  · exact ⟨0, 0, c, p, e, h1, by omega, fun h => absurd h (by simp), fun i h => absurd h (by simp)⟩
  · refine ⟨b, o, c, p, e, h1, by omega, fun _ => hp, fun i hi => ?_⟩
    obtain ⟨vs, ⟨us, us', e1, e2, ⟨us2, us3, e4, e5, e6⟩⟩, g2, g3⟩ := h3 i hi
    have e2' : us = [.int .i64 l[i].1] := e2
    have e5' : us2 = [.int .i64 l[i].2.1] := e5
    have e6' : us3 = [.string l[i].2.2] := e6
    subst e2' e5' e6' e4 e1
    exact ⟨by simpa using g3 0 _ rfl, by simpa using g3 1 _ rfl, by simpa using g3 2 _ rfl⟩
theorem Tryz.info_token : (Tryz.prog.info? 153).map (fun i => (i.zero, i.size, i.bytes)) = some (some (.agg #[.int .i64 0, .int .i64 0, .string ByteArray.empty]), 3, 32) := by kernel_rfl
def tokCells (x : Tok) : List Value := [.int .i64 x.1, .int .i64 x.2.1, .string x.2.2]
theorem tok_rows (w : World) : ∀ x : List Tok, Rows tokE 3 w x (x.flatMap tokCells)
  | [] => rfl
  | y :: x => ⟨tokCells y, x.flatMap tokCells, rfl, ⟨[.int .i64 y.1], _, rfl, rfl, ⟨[.int .i64 y.2.1], [.string y.2.2], rfl, rfl, rfl⟩⟩, rfl, tok_rows w x⟩

/-- What stands at a place: bytes to pass over, a token, or something wrong. -/
inductive Step where
  | skip (n : Nat)
  | tok (k : Int) (t : Txt)
  | bad (c : Int)
def signOf (s : Txt) (a : Nat) : Step := match signsL.find? (signAt s a) with
  | some x => .tok 4 x
  | none => .bad 1
def wordOf (t : Txt) : Step := if isWord t then .tok 3 t else if isName t then .tok 1 t else .bad 2
def numOf (c : Int) (t : Txt) : Step := if 9 < t.size then .bad 3 else if 1 < t.size ∧ c = 48 then .bad 3 else .tok 2 t
def stepOf (s : Txt) (a : Nat) (c : Int) : Step :=
  if c == 32 then .skip 1 else if c == 9 then .skip 1 else if c == 10 then .skip 1
  else if c == 35 then .skip (runEnd noteB s a - a)
  else if letterB c then wordOf (s.extract a (runEnd wordB s a))
  else if digitB c then numOf c (s.extract a (runEnd digitB s a))
  else signOf s a
/-- A text's tokens from a place on, behind those that are there; what is wrong first, and where. -/
def scanGo (s : Txt) : Nat → Nat → List Tok → List Tok × Int × Int
  | 0, _, l => (l, 0, 0)
  | f + 1, a, l =>
    if h : a < s.size then
      match stepOf s a (s[a].toNat) with
      | .skip n => scanGo s f (a + n) l
      | .bad c => ([], c, a)
      | .tok k t => if l.length = 600 then ([], 2, a) else scanGo s f (a + t.size) (l ++ [(k, (a : Int), t)])
    else (l, 0, 0)
def scanOf (s : Txt) : List Tok × Int × Int := if 4000 < s.size then ([], 2, 0) else scanGo s s.size 0 []

theorem scanGo_end {s : Txt} {f a : Nat} {l : List Tok} (h : ¬ a < s.size) : scanGo s f a l = (l, 0, 0) := by
  cases f with
  | zero => rfl
  | succ f => unfold scanGo; rw [dif_neg h]
theorem scanGo_skip {s : Txt} {f a n : Nat} {l : List Tok} (h : a < s.size) (e : stepOf s a (s[a].toNat) = .skip n) : scanGo s (f + 1) a l = scanGo s f (a + n) l := by
  rw [scanGo, dif_pos h, e]
theorem scanGo_bad {s : Txt} {f a : Nat} {c : Int} {l : List Tok} (h : a < s.size) (e : stepOf s a (s[a].toNat) = .bad c) : scanGo s (f + 1) a l = ([], c, (a : Int)) := by
  rw [scanGo, dif_pos h, e]
theorem scanGo_many {s : Txt} {f a : Nat} {k : Int} {t : Txt} {l : List Tok} (h : a < s.size) (e : stepOf s a (s[a].toNat) = .tok k t) (hl : l.length = 600) : scanGo s (f + 1) a l = ([], 2, (a : Int)) := by
  rw [scanGo, dif_pos h, e]
  simp only
  rw [if_pos hl]
theorem scanGo_tok {s : Txt} {f a : Nat} {k : Int} {t : Txt} {l : List Tok} (h : a < s.size) (e : stepOf s a (s[a].toNat) = .tok k t) (hl : ¬ l.length = 600) : scanGo s (f + 1) a l = scanGo s f (a + t.size) (l ++ [(k, (a : Int), t)]) := by
  rw [scanGo, dif_pos h, e]
  simp only
  rw [if_neg hl]

/-- The box of the place. -/
def AtBox (w : World) (g : Nat) (k : Int) : Prop := w.heap[g]? = some (.cells #[.int .i64 k] 3 (0, 0))
/-- The box of the token that is being read. -/
def TokBox (w : World) (tb : Nat) (kd a : Int) (t : Txt) : Prop := w.heap[tb]? = some (.cells #[.int .i64 kd, .int .i64 a, .string t] 153 (0, 0))
theorem AtBox.cell {w : World} {g : Nat} {k : Int} (h : AtBox w g k) : w.cell? ⟨g, 0, none⟩ = some (.int .i64 k) := cell_of_one h
theorem AtBox.free {w : World} {g : Nat} {k : Int} (h : AtBox w g k) : w.frozen? ⟨g, 0, none⟩ = false := free_of_one h
theorem AtBox.lt {w : World} {g : Nat} {k : Int} (h : AtBox w g k) : g < w.heap.size := lt_of_block h
theorem AtBox.set {w : World} {g : Nat} {k : Int} (h : AtBox w g k) (k' : Int) : AtBox (w.setCell ⟨g, 0, none⟩ (.int .i64 k')) g k' := one_setCell h
theorem AtBox.other {w : World} {g : Nat} {k : Int} (h : AtBox w g k) {a : Addr} (ha : g ≠ a.block) (u : Value) : AtBox (w.setCell a u) g k := by
  unfold AtBox; rw [Below.heap_setCell _ _ _ _ ha]; exact h
theorem AtBox.below {w w' : World} {g : Nat} {k : Int} (h : AtBox w g k) (hb : Below w.heap.size w w') : AtBox w' g k := by
  unfold AtBox; rw [hb.block _ h.lt]; exact h
theorem AtBox.new (w : World) (k : Int) : AtBox (w.alloc (.cells #[.int .i64 k] 3)) w.heap.size k := heap_alloc_new _ _
theorem TokBox.lt {w : World} {tb : Nat} {kd a : Int} {t : Txt} (h : TokBox w tb kd a t) : tb < w.heap.size := lt_of_block h
theorem TokBox.cell0 {w : World} {tb : Nat} {kd a : Int} {t : Txt} (h : TokBox w tb kd a t) : w.cell? ⟨tb, 0, none⟩ = some (.int .i64 kd) := by unfold TokBox at h; simp [World.cell?, h]
theorem TokBox.cell1 {w : World} {tb : Nat} {kd a : Int} {t : Txt} (h : TokBox w tb kd a t) : w.cell? ⟨tb, 1, none⟩ = some (.int .i64 a) := by unfold TokBox at h; simp [World.cell?, h]
theorem TokBox.cell2 {w : World} {tb : Nat} {kd a : Int} {t : Txt} (h : TokBox w tb kd a t) : w.cell? ⟨tb, 2, none⟩ = some (.string t) := by unfold TokBox at h; simp [World.cell?, h]
theorem TokBox.free {w : World} {tb : Nat} {kd a : Int} {t : Txt} (h : TokBox w tb kd a t) (j : Nat) : w.frozen? ⟨tb, j, none⟩ = false := by unfold TokBox at h; simp [World.frozen?, h]
theorem TokBox.below {w w' : World} {tb : Nat} {kd a : Int} {t : Txt} (h : TokBox w tb kd a t) (hb : Below w.heap.size w w') : TokBox w' tb kd a t := by
  unfold TokBox; rw [hb.block _ h.lt]; exact h
theorem TokBox.other {w : World} {tb : Nat} {kd a : Int} {t : Txt} (h : TokBox w tb kd a t) {p : Addr} (ha : tb ≠ p.block) (u : Value) : TokBox (w.setCell p u) tb kd a t := by
  unfold TokBox; rw [Below.heap_setCell _ _ _ _ ha]; exact h
theorem tok_setCell {w : World} {tb : Nat} {kd a : Int} {t : Txt} (h : TokBox w tb kd a t) (j : Nat) (u : Value) : (w.setCell ⟨tb, j, none⟩ u).heap[tb]? = some (.cells (#[.int .i64 kd, .int .i64 a, .string t].setIfInBounds j u) 153 (0, 0)) := by
  have hlt := h.lt
  have h' : w.heap[tb] = .cells #[.int .i64 kd, .int .i64 a, .string t] 153 (0, 0) := by unfold TokBox at h; simpa [Array.getElem?_eq_getElem hlt] using h
  show (w.heap.modify tb _)[tb]? = _
  rw [Array.getElem?_eq_getElem (by simpa using hlt), Array.getElem_modify_self, h']
  rfl
theorem TokBox.set0 {w : World} {tb : Nat} {kd a : Int} {t : Txt} (h : TokBox w tb kd a t) (k' : Int) : TokBox (w.setCell ⟨tb, 0, none⟩ (.int .i64 k')) tb k' a t := tok_setCell h 0 _
theorem TokBox.set2 {w : World} {tb : Nat} {kd a : Int} {t : Txt} (h : TokBox w tb kd a t) (t' : Txt) : TokBox (w.setCell ⟨tb, 2, none⟩ (.string t')) tb kd a t' := tok_setCell h 2 _
theorem TokBox.new (w : World) (kd a : Int) (t : Txt) : TokBox (w.alloc (.cells #[.int .i64 kd, .int .i64 a, .string t] 153)) w.heap.size kd a t := heap_alloc_new _ _

/-- The loop's memory: below `N` as it was; the place; the tokens so far. -/
structure Scn (N : Nat) (W w : World) (g : Nat) (k : Int) (v : Value) (l : List Tok) : Prop where
  below : Below N W w
  box : AtBox w g k
  ge : N ≤ g
  row : w.ownsRow N 153 3 v l.length (l.flatMap tokCells)
  ne : v.ownBlock ≠ some g
theorem Scn.sub {N : Nat} {W w w' : World} {g : Nat} {k : Int} {v : Value} {l : List Tok} (h : Scn N W w g k v l) (hN : N ≤ w.heap.size) (hb : Below w.heap.size w w') : Scn N W w' g k v l :=
  ⟨h.below.trans (hb.mono hN), h.box.below hb, h.ge, own_below h.row hb, h.ne⟩
theorem Scn.setAt {N : Nat} {W w : World} {g : Nat} {k : Int} {v : Value} {l : List Tok} (h : Scn N W w g k v l) (k' : Int) : Scn N W (w.setCell ⟨g, 0, none⟩ (.int .i64 k')) g k' v l :=
  ⟨h.below.setCell h.ge _, h.box.set k', h.ge, ownsRow_setCell_other h.row h.ne _, h.ne⟩
theorem Scn.other {N : Nat} {W w : World} {g : Nat} {k : Int} {v : Value} {l : List Tok} (h : Scn N W w g k v l) {a : Addr} (h1 : N ≤ a.block) (h2 : g ≠ a.block) (h3 : v.ownBlock ≠ some a.block) (u : Value) : Scn N W (w.setCell a u) g k v l :=
  ⟨h.below.setCell h1 _, h.box.other h2 _, h.ge, ownsRow_setCell_other h.row h3 _, h.ne⟩
theorem Scn.newAt {N : Nat} {W w : World} {g : Nat} {k : Int} {v : Value} {l : List Tok} (h : Scn N W w g k v l) (hN : N ≤ w.heap.size) : Scn N W (w.alloc (.cells #[.int .i64 k] 3)) w.heap.size k v l :=
  ⟨h.below.alloc hN _, AtBox.new _ _, hN, h.row.alloc _, fun e => by have := (h.row.lt _ e).2; omega⟩
theorem Scn.append {N : Nat} {W w : World} {g : Nat} {k : Int} {v : Value} {l : List Tok} (h : Scn N W w g k v l) (hN : N ≤ w.heap.size) (x : Tok) (o : Obj) {v' : Value} {w' : World}
    (hown : w'.ownsRow N 153 3 v' (l.length + 1) (l.flatMap tokCells ++ tokCells x)) (hgrow : (w.alloc o).grownBy w' v.ownBlock) (hob : v'.ownBlock = v.ownBlock ∨ v'.ownBlock = some (w.heap.size + 1)) : Scn N W w' g k v' (l ++ [x]) := by
  have hlt := h.box.lt
  refine ⟨(h.below.alloc hN o).grown hgrow (by simp; omega) (fun q hq => (h.row.lt q hq).1), ?_, h.ge, ?_, ?_⟩
  · unfold AtBox
    rw [hgrow.block g (by simp; omega) (fun e => h.ne e.symm), Below.heap_alloc _ _ _ hlt]
    exact h.box
  · rw [List.length_append, List.flatMap_append]
    simpa using hown
  · rcases hob with e | e
    · rw [e]; exact h.ne
    · rw [e]
      intro e2
      have := Option.some.inj e2
      omega
theorem TokBox.append {w : World} {tb : Nat} {kd a : Int} {t : Txt} (h : TokBox w tb kd a t) {v : Value} (hne : v.ownBlock ≠ some tb) (o : Obj) {w' : World} (hgrow : (w.alloc o).grownBy w' v.ownBlock) : TokBox w' tb kd a t := by
  have hlt := h.lt
  unfold TokBox
  rw [hgrow.block tb (by simp; omega) (fun e => hne e.symm), Below.heap_alloc _ _ _ hlt]
  exact h
end Go.Proofs.YtmepcmnpmhhiiaaGreatDoor
namespace Go.Proofs.YtmepcmnpmhhiiaaGreatDoor
open Go.RowKit
set_option linter.unusedVariables false
set_option linter.unusedSimpArgs false

/-- An expression: kind, place, number, type, name, label, kids. -/
inductive Ex where
  | mk (kind at_ n ty : Int) (name : Txt) (l : Lab) (a : List Ex)
def Ex.kind : Ex → Int | .mk k _ _ _ _ _ _ => k
def Ex.at_ : Ex → Int | .mk _ a _ _ _ _ _ => a
def Ex.num : Ex → Int | .mk _ _ n _ _ _ _ => n
def Ex.ty : Ex → Int | .mk _ _ _ t _ _ _ => t
def Ex.name : Ex → Txt | .mk _ _ _ _ s _ _ => s
def Ex.lab : Ex → Lab | .mk _ _ _ _ _ l _ => l
def Ex.kids : Ex → List Ex | .mk _ _ _ _ _ _ a => a
def Ex.zero : Ex := .mk 0 0 0 0 ⟨#[]⟩ [] []
/-- How an expression lies: seven cells. -/
inductive ExR (w : World) : Ex → List Value → Prop
  | mk (kind at_ n ty : Int) (name : Txt) (l : Lab) (a : List Ex) (vl : Value) (p : Option Addr) (c b o : Nat) (rows : Nat → List Value) (hl : Lbl w l vl) (hc : a.length ≤ c) (hm : c ≤ maxLen) (hp : a ≠ [] → p = some ⟨b, o, none⟩)
      (hr : ∀ (i : Nat) (h : i < a.length), ExR w a[i] (rows i)) (hn : ∀ i, i < a.length → (rows i).length = 7)
      (hx : ∀ i, i < a.length → ∀ j x, (rows i)[j]? = some x → w.cell? ⟨b, o + i * 7 + j, none⟩ = some x) :
      ExR w (.mk kind at_ n ty name l a) [.int .i64 kind, .int .i64 at_, .int .i64 n, .int .i64 ty, .string name, vl, .slice p a.length c]
def exE : Enc Ex := fun w x vs => ExR w x vs
theorem exE_stays : Stays exE := by
  intro w w' x vs hk h
  induction h with
  | mk kind at_ n ty name l a vl p c b o rows hl hc hm hp hr hn hx ih =>
    exact .mk kind at_ n ty name l a vl p c b o rows (hl.stays hk) hc hm hp ih hn fun i hi j x e => hk.2 _ _ _ (hx i hi j x e)
/-- `[]api.Expr`. -/
abbrev Exs (w : World) (l : List Ex) (v : Value) : Prop := SliceOf exE 7 w l v
theorem Exs.stays {w w' : World} (hk : Keeps w w') {l : List Ex} {v : Value} (h : Exs w l v) : Exs w' l v := SliceOf.stays exE_stays hk h
theorem exE_mk {w : World} {kind at_ n ty : Int} {name : Txt} {l : Lab} {a : List Ex} {vl va : Value} (hl : Lbl w l vl) (ha : Exs w a va) : exE w (.mk kind at_ n ty name l a) [.int .i64 kind, .int .i64 at_, .int .i64 n, .int .i64 ty, .string name, vl, va] := by
  obtain ⟨p, c, rfl, h1, h2, h3⟩ := ha
  rcases h3 with rfl | ⟨b, o, hp, h3⟩
  · exact .mk kind at_ n ty name l [] vl p c 0 0 (fun _ => []) hl h1 h2 (fun h => absurd rfl h) (fun i h => nomatch h) (fun i h => nomatch h) (fun i h => nomatch h)
  · have hrows : ∃ rows : Nat → List Value, ∀ (i : Nat) (h : i < a.length), ExR w a[i] (rows i) ∧ (rows i).length = 7 ∧ ∀ j x, (rows i)[j]? = some x → w.cell? ⟨b, o + i * 7 + j, none⟩ = some x :=
      ⟨fun i => if h : i < a.length then (h3 i h).choose else [], fun i h => by
        have := (h3 i h).choose_spec
        simp only [dif_pos h]
        exact this⟩
    obtain ⟨rows, hrows⟩ := hrows
    exact .mk kind at_ n ty name l a vl p c b o rows hl h1 h2 (fun _ => hp) (fun i h => (hrows i h).1) (fun i h => (hrows i h).2.1) (fun i h => (hrows i h).2.2)
theorem exE_out {w : World} {x : Ex} {vs : List Value} (h : exE w x vs) : ∃ vl va, vs = [.int .i64 x.kind, .int .i64 x.at_, .int .i64 x.num, .int .i64 x.ty, .string x.name, vl, va] ∧ Lbl w x.lab vl ∧ Exs w x.kids va := by
  cases h with
  | mk kind at_ n ty name l a vl p c b o rows hl hc hm hp hr hn hx =>
    refine ⟨vl, _, rfl, hl, p, c, rfl, hc, hm, ?_⟩
    by_cases ha : a = []
    · exact .inl ha
    · exact .inr ⟨b, o, hp ha, fun i hi => ⟨rows i, hr i hi, hn i hi, hx i hi⟩⟩
/-- An expression as one value. -/
def ExIs (w : World) (x : Ex) (v : Value) : Prop := ∃ vl va, v = .agg #[.int .i64 x.kind, .int .i64 x.at_, .int .i64 x.num, .int .i64 x.ty, .string x.name, vl, va] ∧ Lbl w x.lab vl ∧ Exs w x.kids va
theorem ExIs.stays {w w' : World} (hk : Keeps w w') {x : Ex} {v : Value} (h : ExIs w x v) : ExIs w' x v := by
  obtain ⟨vl, va, e, h1, h2⟩ := h
  exact ⟨vl, va, e, h1.stays hk, h2.stays hk⟩
theorem ExIs.row {w : World} {x : Ex} {v : Value} (h : ExIs w x v) : ∃ vl va, v = .agg #[.int .i64 x.kind, .int .i64 x.at_, .int .i64 x.num, .int .i64 x.ty, .string x.name, vl, va] ∧ exE w x [.int .i64 x.kind, .int .i64 x.at_, .int .i64 x.num, .int .i64 x.ty, .string x.name, vl, va] := by
  obtain ⟨vl, va, e, h1, h2⟩ := h
  refine ⟨vl, va, e, ?_⟩
  obtain ⟨kind, at_, n, ty, name, l, a⟩ := x
  exact exE_mk h1 h2

/-- What reading comes to: something and where it ended, or a fault: its code and its place. -/
inductive Rs (α : Type) where
  | ok (x : α) (k : Nat)
  | bad (c a : Int)
def Rs.bind {α β : Type} (r : Rs α) (f : α → Nat → Rs β) : Rs β := match r with
  | .ok x k => f x k
  | .bad c a => .bad c a
section
variable (T : List Tok) (E : Int)
def tkAt (k : Nat) : Int := match T[k]? with
  | some t => t.2.1
  | none => E
def tkNext (k : Nat) : Tok := (T[k]?).getD (0, 0, ⟨#[]⟩)
def tkIs (k : Nat) (s : Txt) : Bool := ((tkNext T k).1 == 3 || (tkNext T k).1 == 4) && (tkNext T k).2.2 == s
def failP {α : Type} (c : Int) (k : Nat) : Rs α := .bad c (tkAt T E k)
def mustP (s : Txt) (k : Nat) : Rs Unit := if tkIs T k s then .ok () (k + 1) else failP T E 1 k
def nameP (k : Nat) : Rs Txt := if (tkNext T k).1 = 1 then .ok (tkNext T k).2.2 (k + 1) else failP T E 1 k
def listGo {α : Type} (one : Nat → Rs α) (most : Nat) (sign : Txt) : Nat → List α → Nat → Rs (List α)
  | 0, l, k => .ok l k
  | f + 1, l, k => if tkIs T k sign then (if l.length = most then failP T E 2 k else (one (k + 1)).bind fun x k' => listGo one most sign f (l ++ [x]) k') else .ok l k
def listP {α : Type} (one : Nat → Rs α) (most : Nat) (sign : Txt) (k : Nat) : Rs (List α) := (one k).bind fun x k' => listGo T E one most sign most [x] k'
def tOpen : Txt := ⟨#[123]⟩
def tShut : Txt := ⟨#[125]⟩
def tColon : Txt := ⟨#[58]⟩
def tSemi : Txt := ⟨#[59]⟩
def tComma : Txt := ⟨#[44]⟩
def tLeft : Txt := ⟨#[40]⟩
def tRight : Txt := ⟨#[41]⟩
def tMinus : Txt := ⟨#[45]⟩
def tNot : Txt := ⟨#[33]⟩
def tTrue : Txt := ⟨#[116, 114, 117, 101]⟩
def tFalse : Txt := ⟨#[102, 97, 108, 115, 101]⟩
def tRelease : Txt := ⟨#[114, 101, 108, 101, 97, 115, 101]⟩
def tTo : Txt := ⟨#[116, 111]⟩
def polP (k : Nat) : Rs Pol := (nameP T E k).bind fun o k1 => (mustP T E tColon k1).bind fun _ k2 =>
  if (tkNext T k2).1 = 1 then (listP T E (nameP T E) 6 tComma k2).bind fun rs k3 => .ok (o, rs) k3 else .ok (o, []) k2
def labelP (k : Nat) : Rs Lab := (mustP T E tOpen k).bind fun _ k1 =>
  if tkIs T k1 tShut then .ok [] (k1 + 1) else (listP T E (polP T E) 200 tSemi k1).bind fun l k2 => (mustP T E tShut k2).bind fun _ k3 => .ok l k3
/-- How tightly a sign binds. -/
def levelT : Txt → Int := fun s =>
  if s = ⟨#[124, 124]⟩ then 1 else if s = ⟨#[38, 38]⟩ then 2
  else if s ∈ ([⟨#[61, 61]⟩, ⟨#[33, 61]⟩, ⟨#[60]⟩, ⟨#[60, 61]⟩, ⟨#[62]⟩, ⟨#[62, 61]⟩] : List Txt) then 3
  else if s ∈ ([⟨#[43]⟩, ⟨#[45]⟩] : List Txt) then 4 else if s ∈ ([⟨#[42]⟩, ⟨#[47]⟩, ⟨#[37]⟩] : List Txt) then 5 else 0
def opLoop (one : Nat → Rs Ex) (level : Int) : Nat → Ex → Nat → Rs Ex
  | 0, x, k => .ok x k
  | f + 1, x, k => if (tkNext T k).1 ≠ 4 ∨ levelT (tkNext T k).2.2 ≠ level then .ok x k
    else (one (k + 1)).bind fun y k' => opLoop one level f (.mk 3 (tkNext T k).2.1 0 0 (tkNext T k).2.2 [] [x, y]) k'
/-- An expression of signs that bind so tightly or more: `j` levels below the sixth. -/
def exprL (prim : Nat → Rs Ex) : Nat → Nat → Rs Ex
  | 0, k => prim k
  | j + 1, k => (exprL prim j k).bind fun x k' => opLoop T (exprL prim j) (5 - j) T.length x k'
def argsP (prim : Nat → Rs Ex) (k : Nat) : Rs (List Ex) := (mustP T E tLeft k).bind fun _ k1 =>
  if tkIs T k1 tRight then .ok [] (k1 + 1) else (listP T E (exprL T prim 5) 4 tComma k1).bind fun l k2 => (mustP T E tRight k2).bind fun _ k3 => .ok l k3
def numT (t : Txt) : Int := (t.toList.foldl (fun n b => n * 10 + (b.toNat - 48)) 0 : Nat)
/-- What stands by itself: `d` more may lie within one another. -/
def primP : Nat → Nat → Rs Ex
  | 0 => fun k => failP T E 2 k
  | d + 1 => fun k =>
    if (tkNext T k).1 = 2 then .ok (.mk 1 (tkNext T k).2.1 (numT (tkNext T k).2.2) 1 ⟨#[]⟩ [] []) (k + 1)
    else if tkIs T k tTrue then .ok (.mk 1 (tkNext T k).2.1 1 2 ⟨#[]⟩ [] []) (k + 1)
    else if tkIs T k tFalse then .ok (.mk 1 (tkNext T k).2.1 0 2 ⟨#[]⟩ [] []) (k + 1)
    else if (tkNext T k).1 = 1 then
      (if tkIs T (k + 1) tLeft then (argsP T E (primP d) (k + 1)).bind fun l k2 => .ok (.mk 4 (tkNext T k).2.1 0 0 (tkNext T k).2.2 [] l) k2
       else .ok (.mk 2 (tkNext T k).2.1 0 0 (tkNext T k).2.2 [] []) (k + 1))
    else if tkIs T k tMinus || tkIs T k tNot then (primP d (k + 1)).bind fun x k2 => .ok (.mk 3 (tkNext T k).2.1 0 0 (tkNext T k).2.2 [] [x]) k2
    else if tkIs T k tLeft then (exprL T (primP d) 5 (k + 1)).bind fun x k2 => (mustP T E tRight k2).bind fun _ k3 => .ok x k3
    else if tkIs T k tRelease then (mustP T E tLeft (k + 1)).bind fun _ k1 => (exprL T (primP d) 5 k1).bind fun x k2 => (mustP T E tTo k2).bind fun _ k3 => (labelP T E k3).bind fun l k4 =>
      (mustP T E tRight k4).bind fun _ k5 => .ok (.mk 5 (tkNext T k).2.1 0 0 ⟨#[]⟩ l [x]) k5
    else failP T E 1 k
end
end Go.Proofs.YtmepcmnpmhhiiaaGreatDoor
namespace Go.Proofs.YtmepcmnpmhhiiaaGreatDoor
open Go.RowKit
set_option linter.unusedVariables false
set_option linter.unusedSimpArgs false

/-- What a call owns, as data. -/
theorem SliceOf.of_owns {α : Type} {E : Enc α} {k : Nat} {w : World} {l : List α} {base : Nat} {e : TypeId} {v : Value} {xs : List Value} (h : w.ownsRow base e k v l.length xs)
    (hE : ∀ i (hi : i < l.length), ∃ vs, E w l[i] vs ∧ vs.length = k ∧ ∀ j x, vs[j]? = some x → xs[i * k + j]? = some x) : SliceOf E k w l v := by
  obtain ⟨hl, h⟩ := h
  rcases h with ⟨rfl, hn⟩ | ⟨g, cap, cur, rfl, _, hh, h1, h2, h3, h4⟩
  · exact ⟨none, 0, by rw [hn], by omega, by unfold maxLen; omega, Or.inl (List.length_eq_zero_iff.1 hn)⟩
  · refine ⟨_, cap, rfl, h1, h2, Or.inr ⟨g, 0, rfl, fun i hi => ?_⟩⟩
    obtain ⟨vs, e1, e2, e3⟩ := hE i hi
    refine ⟨vs, e1, e2, fun j x hx => ?_⟩
    have := e3 j x hx
    rw [← h4, List.getElem?_take] at this
    split at this
    · simpa [World.cell?, hh] using this
    · cases this
theorem Strs.of_owns {w : World} {l : List Txt} {base : Nat} {e : TypeId} {v : Value} (h : w.ownsRow base e 1 v l.length (l.map Value.string)) : Strs w l v :=
  SliceOf.of_owns h fun i hi => ⟨_, rfl, rfl, fun j x hx => by
    match j, hx with
    | 0, hx =>
      simp at hx
      subst hx
      simp [hi]⟩

theorem Tryz.info_string : (Tryz.prog.info? 9).map (fun i => (i.zero, i.size, i.bytes)) = some (some (.string ByteArray.empty), 1, 16) := by kernel_rfl
end Go.Proofs.YtmepcmnpmhhiiaaGreatDoor
namespace Go.Proofs.YtmepcmnpmhhiiaaGreatDoor
open Go.RowKit Go.Maps
set_option linter.unusedVariables false
set_option linter.unusedSimpArgs false

theorem Tryz.info_stringL : (Tryz.prog.info? 9).map (fun i => (i.zero, i.size, i.bytes)) = some (some (.string ByteArray.empty), 1, 16) := by kernel_rfl
/-- Laid one behind the other: an owner and readers. -/
theorem strs_of_own {w : World} {o : Txt} {rs : List Txt} {base n : Nat} {e : TypeId} {v : Value} {xs : List Value} (h : w.ownsRow base e 1 v n ([.string o] ++ xs)) (hn : n = 1 + rs.length) (hr : Rows txt 1 w rs xs) : Strs w (o :: rs) v := by
  have hn' : n = (o :: rs).length := by rw [hn]; simp; omega
  subst hn'
  exact SliceOf.of_rows h ⟨[.string o], xs, rfl, rfl, rfl, hr⟩

/-- A function value that tells `f` of each policy of a label, whatever is made in between. -/
def TellsPol (W : World) (l : Lab) (fn : FuncId) (cap : Array Value) (f : Pol → Bool) : Prop :=
  ∀ (x : Pol), x ∈ l → ∀ (vr : Value) (w : World), Below W.heap.size W w → Strs w x.2 vr → Calls Tryz.prog fn (#[.agg #[.string x.1, vr]] ++ cap) w fun e w' => e = .returned (.bool (f x)) ∧ Below w.heap.size w w'

theorem indexPol_calls (l : Lab) (v : Value) (fn : FuncId) (cap : Array Value) (f : Pol → Bool) (w : World) (h : Lbl w l v) (eg : ∀ args w, (callFunc fn args).run Tryz.prog w = .ok (.enter fn args) w) (hq : TellsPol w l fn cap f) :
    Calls Tryz.prog 215 #[v, .func (.func fn) #[] cap] w fun e w' => e = .returned (.int .i64 (idxBy l f)) ∧ Below w.heap.size w w' := by
  obtain ⟨b, o, c, p, rfl, hlc, hc, hp, hcells⟩ := h.cells
  go_enter Tryz.func215, Tryz.ntmps215
  go_wp2
  go_loopw [5, 8] (fun _ i wr => ∃ k : Nat, k ≤ l.length ∧ i = .int .i64 k ∧ Below w.heap.size w wr ∧ ∀ j (hj : j < l.length), j < k → f l[j] = false) (fun _ i _ => l.length - (intOf i).toNat)
  case atStart => exact ⟨0, Nat.zero_le _, rfl, Below.refl _ _, fun j _ hj => absurd hj (Nat.not_lt_zero _)⟩
  case round =>
    obtain ⟨k, hk, rfl, hb, hne⟩ := hrel
    by_cases hlt : k < l.length
    · obtain ⟨u, hca, hcb, hu⟩ := hcells k hlt
      have hcell1 : wr.cell? ⟨b, o + k * 2, none⟩ = some (.string l[k].1) := (hb.cell (cell_lt hca)).trans hca
      have hcell2 : wr.cell? ⟨b, o + k * 2 + 1, none⟩ = some u := (hb.cell (cell_lt hcb)).trans hcb
      obtain rfl := hp (by omega)
      have HN := Lib.hid hne
      clear hp hcells hca hcb hne
      have HQ := hq l[k] (List.getElem_mem hlt) u wr hb (hu.stays (keeps_of_below hb))
      clear hq hu
      cases hx : f l[k] with
      | true =>
        rw [hx] at HQ
        have HX := Lib.hid hx
        clear hx
        go_wp2_with (fail)
        refine HQ.mono ?_
        rintro e w1 ⟨rfl, hb1⟩
        go_wp2
        go_ret
        exact ⟨ret_int (idxBy_hit hlt HX.out HN.out).symm, hb.trans (hb1.mono hb.size)⟩
      | false =>
        rw [hx] at HQ
        have HX := Lib.hid hx
        clear hx
        go_wp2_with (fail)
        refine HQ.mono ?_
        rintro e w1 ⟨rfl, hb1⟩
        go_wp2
        go_roundw
        case rel =>
          refine ⟨k + 1, by omega, by go_num, hb.trans (hb1.mono hb.size), fun j hj hj' => ?_⟩
          by_cases e : j = k
          · subst e; exact HX.out
          · exact HN.out j hj (by omega)
        case measure => simp [intOf]; omega
    · go_wp2
      go_ret
      exact ⟨ret_int (idxBy_miss (fun j hj => hne j hj (by omega))).symm, hb⟩
theorem containsPol_calls (l : Lab) (v : Value) (fn : FuncId) (cap : Array Value) (f : Pol → Bool) (w : World) (h : Lbl w l v)
    (eg : ∀ args w, (callFunc fn args).run Tryz.prog w = .ok (.enter fn args) w) (hq : TellsPol w l fn cap f) :
    Calls Tryz.prog 176 #[v, .func (.func fn) #[] cap] w fun e w' => e = .returned (.bool (anyBy l f)) ∧ Below w.heap.size w w' := by
  rw [← idxBy_any]
  go_enter Tryz.func176, Tryz.ntmps176
  go_wp2_with (go_at_call 215; refine (indexPol_calls l _ fn cap f _ h eg hq).mono ?_; rintro e w' ⟨rfl, hb⟩)
  go_ret
  exact ⟨rfl, hb⟩
end Go.Proofs.YtmepcmnpmhhiiaaGreatDoor
namespace Go.Proofs.YtmepcmnpmhhiiaaGreatDoor
open Go.RowKit
set_option linter.unusedVariables false
set_option linter.unusedSimpArgs false

def bytesT (l : List UInt8) : Txt := ⟨l.toArray⟩
/-- Texts with one between each two. -/
def joinT (l : List Txt) (sep : Txt) : Txt := bytesT (Lib.join (l.map (·.data.toList)) sep.data.toList)
theorem join_calls (l : List Txt) (sep : Txt) (v : Value) (w : World) (h : Strs w l v) (hl : (Lib.join (l.map (·.data.toList)) sep.data.toList).length ≤ 140737488355328) (hn : l.length ≤ 140737488355328) :
    Calls Tryz.prog 44 #[v, .string sep] w fun e w' => e = .returned (.string (joinT l sep)) ∧ Below w.heap.size w w' := by
  obtain ⟨b, o, c, p, rfl, hlc, hc, hp, hcells⟩ := h.cells
  by_cases h0 : l.length = 0
  · have e : l = [] := List.length_eq_zero_iff.1 h0
    subst e
    refine (Tryz.strings_Join_none p c sep w).mono ?_
    rintro e w' ⟨rfl, rfl⟩
    exact ⟨rfl, Below.refl _ _⟩
  · obtain rfl := hp (by omega)
    exact Tryz.strings_Join b o c l sep w (fun j x hx => by
      obtain ⟨hj, rfl⟩ := List.getElem?_eq_some_iff.1 hx
      exact hcells j hj) (cell_lt (hcells 0 (by omega))) hn hlc hl
end Go.Proofs.YtmepcmnpmhhiiaaGreatDoor
namespace Go.Proofs.YtmepcmnpmhhiiaaGreatDoor
open Go.RowKit
set_option linter.unusedVariables false
set_option linter.unusedSimpArgs false

theorem bytesT_append (a b : List UInt8) : bytesT (a ++ b) = bytesT a ++ bytesT b := by
  unfold bytesT; rw [ByteArray.mk_append_mk]
theorem bytesT_data (s : Txt) : bytesT s.data.toList = s := by
  cases s; simp [bytesT]
theorem joinT_nil (sep : Txt) : joinT [] sep = ByteArray.empty := rfl
theorem joinT_one (y sep : Txt) : joinT [y] sep = y := by
  unfold joinT; rw [List.map_cons, List.map_nil, Lib.join_one, bytesT_data]
theorem joinT_snoc (l : List Txt) (y sep : Txt) (h : l ≠ []) : joinT (l ++ [y]) sep = joinT l sep ++ sep ++ y := by
  cases l with
  | nil => exact absurd rfl h
  | cons x l =>
    unfold joinT
    rw [List.cons_append, List.map_cons, List.map_cons, Lib.join_cons, Lib.join_cons, List.map_append, List.map_cons, List.map_nil]
    unfold Lib.joinTail
    rw [List.map_append, List.flatten_append]
    simp only [List.map_cons, List.map_nil, List.flatten_cons, List.flatten_nil, List.append_nil, bytesT_append, bytesT_data, ByteArray.append_assoc]
theorem empty_append (s : Txt) : ByteArray.empty ++ s = s := by simp
theorem join_len (l : List Txt) (sep : Txt) (m : Nat) (h : ∀ s ∈ l, s.size ≤ m) : (Lib.join (l.map (·.data.toList)) sep.data.toList).length ≤ l.length * (m + sep.size) := by
  cases l with
  | nil => simp [Lib.join_nil]
  | cons x l =>
    rw [List.map_cons, Lib.join_cons]
    have hx : x.data.toList.length ≤ m := h x (by simp)
    have : ∀ (l : List Txt), (∀ s ∈ l, s.size ≤ m) → (Lib.joinTail sep.data.toList (l.map (·.data.toList))).length ≤ l.length * (m + sep.size) := by
      intro l
      induction l with
      | nil => intro _; simp [Lib.joinTail]
      | cons y l ih =>
        intro h
        have h1 : y.data.toList.length ≤ m := h y (by simp)
        have h2 := ih fun s hs => h s (by simp [hs])
        have h3 : sep.data.toList.length = sep.size := Array.length_toList
        simp only [Lib.joinTail, List.map_cons, List.flatten_cons, List.length_append, List.length_cons, Nat.add_mul] at h2 ⊢
        omega
    have h2 := this l fun s hs => h s (by simp [hs])
    simp only [List.length_append, List.length_cons, Nat.add_mul]
    omega
theorem joinT_size (l : List Txt) (sep : Txt) : (joinT l sep).size = (Lib.join (l.map (·.data.toList)) sep.data.toList).length := by
  exact List.size_toArray
end Go.Proofs.YtmepcmnpmhhiiaaGreatDoor
namespace Go.Proofs.YtmepcmnpmhhiiaaGreatDoor
open Go.RowKit Go.Maps
set_option linter.unusedVariables false
set_option linter.unusedSimpArgs false

/-- Is a policy too long to be printed? -/
def longP (p : Pol) : Bool := decide (6 < p.2.length) || (p.1 :: p.2).any fun s => decide (12 < s.size)
def longL (x : Lab) : Bool := decide (200 < x.length) || x.any longP
def colonT : Txt := ⟨#[58]⟩
def commaT : Txt := ⟨#[44]⟩
def semiT : Txt := ⟨#[59]⟩
def openT : Txt := ⟨#[123]⟩
def shutT : Txt := ⟨#[125]⟩
def polT (p : Pol) : Txt := p.1 ++ colonT ++ joinT p.2 commaT
def printT (x : Lab) : Txt := openT ++ joinT (x.map polT) semiT ++ shutT
def printE (x : Lab) : Int := if longL x then 2 else 0
def printS (x : Lab) : Txt := if longL x then ByteArray.empty else printT x
theorem long_many {x : Lab} (h : 200 < x.length) : longL x = true := by simp [longL, h]
theorem long_at {x : Lab} {k : Nat} (hk : k < x.length) (h : longP x[k] = true) : longL x = true := by
  unfold longL
  rw [Bool.or_eq_true, List.any_eq_true]
  exact .inr ⟨_, List.getElem_mem hk, h⟩
theorem long_none {x : Lab} (h0 : ¬ 200 < x.length) (h : ∀ j (hj : j < x.length), longP x[j] = false) : longL x = false := by
  unfold longL
  rw [Bool.or_eq_false_iff, List.any_eq_false]
  refine ⟨by simp; omega, fun p hp => ?_⟩
  obtain ⟨j, hj, rfl⟩ := List.getElem_of_mem hp
  simp [h j hj]
theorem longP_many {p : Pol} (h : 6 < p.2.length) : longP p = true := by simp [longP, h]
theorem longP_at {p : Pol} {ys : List Txt} (e : p.1 :: p.2 = ys) {k : Nat} (hk : k < ys.length) (h : 12 < ys[k].size) : longP p = true := by
  subst e
  unfold longP
  rw [Bool.or_eq_true, List.any_eq_true]
  exact .inr ⟨_, List.getElem_mem hk, by simpa using h⟩
theorem longP_none {p : Pol} {ys : List Txt} (e : p.1 :: p.2 = ys) (h0 : ¬ 6 < p.2.length) (h : ∀ j (hj : j < ys.length), ¬ 12 < ys[j].size) : longP p = false := by
  subst e
  unfold longP
  rw [Bool.or_eq_false_iff, List.any_eq_false]
  refine ⟨by simp; omega, fun s hs => ?_⟩
  obtain ⟨j, hj, rfl⟩ := List.getElem_of_mem hs
  have := h j hj
  simp; omega
theorem longP_false {p : Pol} (h : longP p = false) : p.2.length ≤ 6 ∧ p.1.size ≤ 12 ∧ ∀ s ∈ p.2, s.size ≤ 12 := by
  unfold longP at h
  rw [Bool.or_eq_false_iff, List.any_eq_false] at h
  refine ⟨by have := h.1; simp at this; omega, by have := h.2 p.1 (by simp); simp at this; omega, fun s hs => ?_⟩
  have := h.2 s (by simp [hs])
  simp at this; omega
theorem polT_size {p : Pol} (h : longP p = false) : (polT p).size ≤ 91 := by
  obtain ⟨h1, h2, h3⟩ := longP_false h
  have := join_len p.2 commaT 12 h3
  have e : commaT.size = 1 := rfl
  have e2 : colonT.size = 1 := rfl
  unfold polT
  rw [ByteArray.size_append, ByteArray.size_append, joinT_size, e2]
  have : p.2.length * (12 + commaT.size) ≤ 6 * 13 := Nat.mul_le_mul h1 (by rw [e]; decide)
  omega

set_option maxHeartbeats 1000000 in
set_option maxRecDepth 100000 in
theorem print_calls (x : Lab) (u : Value) (w : World) (hu : Lbl w x u) :
    Calls Tryz.prog 11 #[u] w fun e w' => e = .returned (.tuple #[.string (printS x), .int .i64 (printE x)]) ∧ Below w.heap.size w w' := by
  obtain ⟨b, o, c, p, rfl, hlc1, hcm1, hp, hcells⟩ := hu.cells
  clear hu
  obtain ⟨t0, hi, hz0, hz1, hz2⟩ := info_parts Tryz.info_stringL
  by_cases h0 : x.length ≤ 200
  · have h0' : (x.length : Int) ≤ 200 := by omega
    go_enter Tryz.func11, Tryz.ntmps11
    go_wp2
    go_loopw [4, 6, 8, 14] (fun y _ _ i wr => ∃ k : Nat, k ≤ x.length ∧ i = .int .i64 k ∧ Below w.heap.size w wr ∧ wr.ownsRow w.heap.size 9 1 y k ((x.take k).map fun p => .string (polT p)) ∧ Hid (∀ j (hj : j < x.length), j < k → longP x[j] = false)) (fun _ _ _ i _ => x.length - (intOf i).toNat)
    case atStart => exact ⟨0, Nat.zero_le _, rfl, Below.refl _ _, World.ownsRow_nil _ _ _ _, fun j _ hj => absurd hj (Nat.not_lt_zero _)⟩
    case round =>
      obtain ⟨k, hk, rfl, hb, hown, HN⟩ := hrel
      by_cases hlt : k < x.length
      · obtain ⟨ur, hca, hcb, hur⟩ := hcells k hlt
        have hcell1 : wr.cell? ⟨b, o + k * 2, none⟩ = some (.string x[k].1) := (hb.cell (cell_lt hca)).trans hca
        have hcell2 : wr.cell? ⟨b, o + k * 2 + 1, none⟩ = some ur := (hb.cell (cell_lt hcb)).trans hcb
        obtain rfl := hp (by omega)
        clear hp hcells hca hcb
        obtain ⟨pr, cr, xs, rfl, hl1, hl2, hrow, hpn, hnews⟩ := SliceOf.rows (by decide) hur
        by_cases h6 : 6 < x[k].2.length
        · have h6' : 6 < (x[k].2.length : Int) := by omega
          have HX : Hid (longL x = true) := long_at hlt (longP_many h6)
          go_wp2
          go_ret2
          exact ⟨by unfold printS printE; rw [HX.out]; rfl, hb.alloc hb.size _⟩
        · have h6' : (x[k].2.length : Int) ≤ 6 := by omega
          have hsize := hb.size
          have hlen6 : x[k].2.length ≤ 6 := by omega
          obtain ⟨W1, eW⟩ : ∃ W1, wr.alloc (.cells #[.string x[k].1, .slice pr x[k].2.length cr] 77) = W1 := ⟨_, rfl⟩
          obtain ⟨z1, hW1, m1⟩ := boxes1 eW
          have hm0 := m1 0
          have hm1 := m1 1
          simp only [List.getElem?_toArray, List.getElem?_cons_zero, List.getElem?_cons_succ] at hm0 hm1
          have hbA : Below w.heap.size w W1 := hb.trans (hW1.mono hb.size)
          have hk3 := (keeps_of_below hbA).trans (keeps_of_below ((Below.refl W1.heap.size W1).alloc (Nat.le_refl _) (.cells #[.string x[k].1] 9)))
          have hown0 : (W1.alloc (.cells #[.string x[k].1] 9)).ownsRow w.heap.size 9 1 (.slice (some ⟨wr.heap.size + 1, 0, none⟩) 1 1) 1 [.string x[k].1] := by
            have := World.ownsRow_lit (base := w.heap.size) (e := 9) (size := 1) W1 #[.string x[k].1] 1 hbA.size (by unfold maxLen; decide) rfl
            rw [z1] at this
            simpa using this
          have HROW := Lib.hid hrow
          have HNEWS := Lib.hid hnews
          have HBA := Lib.hid hbA
          have HW1 := Lib.hid hW1
          have HOWN := Lib.hid (own_below hown hW1)
          have HM0 := Lib.hid hm0
          have HM1 := Lib.hid hm1
          have HUR := Lib.hid (hur.stays (keeps_of_below hbA))
          clear hrow hnews hur hbA hW1 hown m1
          go_wp2_with (at_builtin; refine wpList_append_src _ rfl _ _ 52 rfl w.heap.size 9 t0 (.string ByteArray.empty) 1 16 Tryz.underlying52 hi hz0 hz1 hz2 rfl (by decide) _ _ _ rfl hown0 pr x[k].2.length cr xs rfl HROW.out.length hpn ?c1 (Rows.plain txt_plain HROW.out) ?c2 ?c3 ?c4 ?_)
          case c1 => exact fun ad e j u hu => cell_keep hk3 (HNEWS.out ad e j u hu)
          case c2 => unfold maxLen; omega
          case c3 => omega
          case c4 => simp; omega
          · intro v' w5 hown' hgrow
            have hS : Strs w5 (x[k].1 :: x[k].2) v' := strs_of_own hown' rfl (Rows.free (One.free _) HROW.out)
            have hb5 : Below W1.heap.size W1 w5 := ((Below.refl _ _).alloc (Nat.le_refl _) _).grown hgrow (by simp) (fun q hq => by simp [Value.ownBlock] at hq; omega)
            generalize hys : x[k].1 :: x[k].2 = ys at hS
            have HYS := Lib.hid hys
            obtain ⟨b7, o7, c7, p7, rfl, hl7, hc7, hp7, hcells7⟩ := hS.cells
            obtain rfl := hp7 (by rw [← hys]; simp)
            have HB5 := Lib.hid hb5
            clear hys hown' hgrow hS hk3 hcell1 hcell2 hb hp7 hb5
            go_wp2
            go_loop [8, 29] (fun _ i => ∃ m : Nat, m ≤ ys.length ∧ i = .int .i64 m ∧ Hid (∀ j (hj : j < ys.length), j < m → ¬ 12 < ys[j].size)) (fun _ i => ys.length - (intOf i).toNat)
            case atStart => exact ⟨0, Nat.zero_le _, rfl, fun j _ hj => absurd hj (Nat.not_lt_zero _)⟩
            case round =>
              obtain ⟨m, hm, rfl, HM⟩ := hrel
              by_cases hltm : m < ys.length
              · have hcell := hcells7 m hltm
                clear hcells7
                by_cases hs : 12 < ys[m].size
                · have HX : Hid (longL x = true) := long_at hlt (longP_at HYS.out hltm hs)
                  have hs' : 12 < (ys[m].size : Int) := by omega
                  go_wp2
                  go_ret2
                  exact ⟨by unfold printS printE; rw [HX.out]; rfl, HBA.out.trans (HB5.out.mono HBA.out.size)⟩
                · have hs' : (ys[m].size : Int) ≤ 12 := by omega
                  have HS := Lib.hid hs
                  go_wp2
                  go_round
                  case rel =>
                    refine ⟨m + 1, by omega, by go_num, fun j hj hj' => ?_⟩
                    by_cases e : j = m
                    · subst e; exact HS.out
                    · exact HM.out j hj (by omega)
                  case measure => simp [intOf]; omega
              · have HX : Hid (longP x[k] = false) := longP_none HYS.out h6 fun j hj => HM.out j hj (by omega)
                clear hcells7
                go_wp2
                have hzW := z1
                obtain ⟨ext, hx1, hx2⟩ := exists_ext w5
                have k0 : ∀ y, (ext y).cell? ⟨wr.heap.size, 0, none⟩ = some (.string x[k].1) := fun y => ((HB5.out.trans ((hx1 y).mono HB5.out.size)).cell (p := ⟨wr.heap.size, 0, none⟩) (by simp only; omega)).trans HM0.out
                have k1 : ∀ y, (ext y).cell? ⟨wr.heap.size, 1, none⟩ = some (.slice pr x[k].2.length cr) := fun y => ((HB5.out.trans ((hx1 y).mono HB5.out.size)).cell (p := ⟨wr.heap.size, 1, none⟩) (by simp only; omega)).trans HM1.out
                have HJ : Hid (∀ y, Calls Tryz.prog 44 #[.slice pr x[k].2.length cr, .string commaT] (ext y) fun e w'' => e = .returned (.string (joinT x[k].2 commaT)) ∧ ∃ z, w'' = ext z) := fun y => by
                  have hl := join_len x[k].2 commaT 12 (longP_false HX.out).2.2
                  have e1 : commaT.size = 1 := rfl
                  have hm : x[k].2.length * (12 + commaT.size) ≤ 6 * 13 := Nat.mul_le_mul hlen6 (by rw [e1]; decide)
                  refine (join_calls x[k].2 commaT _ (ext y) (HUR.out.stays (keeps_of_below (HB5.out.trans ((hx1 y).mono HB5.out.size)))) (by omega) (by omega)).mono fun e w'' ⟨h1, h2⟩ => ⟨h1, w'', hx2 _ ((hx1 y).trans (h2.mono (hx1 y).size))⟩
                have hOx : ∀ y, (ext y).ownsRow w.heap.size 9 1 _ k ((x.take k).map fun p => .string (polT p)) := fun y => own_below HOWN.out (HB5.out.trans ((hx1 y).mono HB5.out.size))
                have HOX := Lib.hid hOx
                have hbx : ∀ y, Below w.heap.size w (ext y) := fun y => HBA.out.trans ((HB5.out.trans ((hx1 y).mono HB5.out.size)).mono HBA.out.size)
                have HBX := Lib.hid hbx
                have hd := hx2 _ (Below.refl w5.heap.size w5).drew
                have HD := Lib.hid hd
                have hs1 : x[k].1.size ≤ 12 := (longP_false HX.out).2.1
                have hs2 : (joinT x[k].2 commaT).size ≤ 91 := by
                  have h := polT_size HX.out
                  unfold polT at h
                  rw [ByteArray.size_append] at h
                  omega
                clear hx1 hx2 hd hOx hbx
                refine wp_region_moved_tail 8 (fun w' => ∃ y, w' = ext y) (by kernel_rfl) rfl rfl (fun _ _ _ _ h => h) (by kernel_rfl) ⟨_, HD.out⟩ ?_
                simp only [List.take_succ_cons, List.take_zero, List.drop_succ_cons, List.drop_zero, Act.put, Act.eval, List.setIfInBounds_toArray, List.set_cons_succ, List.set_cons_zero, Array.getD_eq_getD_getElem?, List.getElem?_toArray, List.getElem?_cons_succ, List.getElem?_cons_zero, Option.getD_some]
                repeat go_big_quiet_step ((go_at_call 44; exact HJ.out _))
                refine wpQuiet_nil ?_
                rintro w' ⟨y, rfl⟩
                have hown6 := (HOX.out y)
                have hsz6 := (HBX.out y).size
                clear k0 k1
                go_wp2_with (at_builtin; refine wpList_append_own _ rfl _ _ 52 rfl w.heap.size 9 t0 (.string ByteArray.empty) 1 16 Tryz.underlying52 hi hz0 hz1 hz2 rfl (by decide) _ _ _ rfl (hown6.alloc _) ⟨(ext y).heap.size, 0, none⟩ 1 1 [.string (x[k].1 ++ ⟨#[58]⟩ ++ joinT x[k].2 commaT)] rfl rfl ?c1 ?c2 ?c3 ?c4 ?c5 ?_)
                case c1 =>
                  intro j u hj
                  match j, hj with
                  | 0, hj => simp at hj; subst hj; simp [Addr.add]
                case c2 => intro u hu; simp at hu; subst hu; rfl
                case c3 => unfold maxLen; omega
                case c4 => omega
                case c5 => simp; omega
                · intro v' w6 hown' hgrow6 _
                  go_wp2
                  go_roundw
                  case rel =>
                    refine ⟨k + 1, by omega, by go_num, ((HBX.out y).alloc (HBX.out y).size _).grown hgrow6 (by have := (HBX.out y).size; simp; omega) (fun q hq => (hown6.lt q hq).1), ?_, fun j hj hj' => ?_⟩
                    · rw [List.take_succ_eq_append_getElem hlt, List.map_append, List.map_take]
                      exact hown'
                    · by_cases e : j = k
                      · subst e; exact HX.out
                      · exact HN.out j hj (by omega)
                  case measure => simp [intOf]; omega
      · obtain rfl : k = x.length := by omega
        have HX : Hid (longL x = false) := long_none (by omega) fun j hj => HN.out j hj (by omega)
        rw [List.take_length] at hown
        have hS : Strs wr (x.map polT) _ := Strs.of_owns (l := x.map polT) (by rw [List.length_map, List.map_map]; exact hown)
        have hn : ∀ s ∈ x.map polT, s.size ≤ 91 := fun s hs => by
          obtain ⟨p, hp, rfl⟩ := List.mem_map.1 hs
          obtain ⟨j, hj, rfl⟩ := List.getElem_of_mem hp
          exact polT_size (HN.out j hj hj)
        have hl := join_len (x.map polT) semiT 91 hn
        have e1 : semiT.size = 1 := rfl
        have hm : (x.map polT).length * (91 + semiT.size) ≤ 200 * 92 := Nat.mul_le_mul (by rw [List.length_map]; exact h0) (by rw [e1]; decide)
        have HJ : Hid (Calls Tryz.prog 44 #[_, .string semiT] wr fun e w' => e = .returned (.string (joinT (x.map polT) semiT)) ∧ Below wr.heap.size wr w') := join_calls (x.map polT) semiT _ wr hS (by omega) (by rw [List.length_map]; omega)
        have hs2 : (joinT (x.map polT) semiT).size ≤ 18400 := by rw [joinT_size]; omega
        clear hS hl hm hn e1 hp hcells hown
        go_wp2_with (fail)
        refine HJ.out.mono ?_
        rintro e w1 ⟨rfl, hb1⟩
        go_wp2
        go_ret2
        exact ⟨by unfold printS printE; rw [HX.out]; rfl, hb.trans (hb1.mono hb.size)⟩
  · have h0' : 200 < (x.length : Int) := by omega
    have HX : Hid (longL x = true) := long_many (by omega)
    go_enter Tryz.func11, Tryz.ntmps11
    go_wp2
    go_ret2
    exact ⟨by unfold printS printE; rw [HX.out]; rfl, Below.refl _ _⟩
end Go.Proofs.YtmepcmnpmhhiiaaGreatDoor
namespace Go.Proofs.YtmepcmnpmhhiiaaGreatDoor
open Go.RowKit
set_option linter.unusedVariables false
set_option linter.unusedSimpArgs false

/-- Has a label the form of one? -/
def fitsB (l : Lab) : Bool := (printE l == 0) && !anyBy l fun p => !isName p.1 || !(!anyBy p.2 fun s => !isName s)
/-- The form of an expression, its kids aside. -/
def formB (x : Ex) (deep : Int) : Bool :=
  if x.kind = 1 then decide (deep ≤ 12) && ((x.kids.length : Int) == 0) && (x.name == ⟨#[]⟩) && ((x.lab.length : Int) == 0) && ((x.ty == 1 && decide (0 ≤ x.num) && decide (x.num ≤ 999999999)) || (x.ty == 2 && (x.num == 0 || x.num == 1)))
  else if x.kind = 2 then decide (deep ≤ 12) && isName x.name && ((x.kids.length : Int) == 0) && (x.num == 0) && (x.ty == 0) && ((x.lab.length : Int) == 0)
  else if x.kind = 3 then decide (deep ≤ 12) && ((((x.kids.length : Int) == 1) && (x.name == tMinus || x.name == tNot)) || (((x.kids.length : Int) == 2) && decide (0 < levelT x.name))) && (x.num == 0) && (x.ty == 0) && ((x.lab.length : Int) == 0)
  else if x.kind = 4 then decide (deep ≤ 12) && isName x.name && decide ((x.kids.length : Int) ≤ 4) && (x.num == 0) && (x.ty == 0) && ((x.lab.length : Int) == 0)
  else if x.kind = 5 then decide (deep ≤ 12) && ((x.kids.length : Int) == 1) && (x.name == ⟨#[]⟩) && (x.num == 0) && (x.ty == 0) && fitsB x.lab
  else false
/-- Over all of an expression: does it hold of each? -/
def walkB (visit : Ex → Int → Bool) : Nat → Ex → Bool
  | 0, x => x.kids.isEmpty && visit x 13
  | n + 1, x => x.kids.all (walkB visit n) && visit x (12 - n)
def formedB (x : Ex) : Bool := walkB formB 12 x
def quoteT (b : Bool) (s : Txt) : Txt := if b then tLeft ++ s ++ tRight else s
def blank1 : Txt := ⟨#[32]⟩
def commaSp : Txt := ⟨#[44, 32]⟩
def toT : Txt := ⟨#[32, 116, 111, 32]⟩
def releaseT : Txt := ⟨#[114, 101, 108, 101, 97, 115, 101, 40]⟩
mutual
/-- An expression's text, where something binds so tightly. -/
def textP : Ex → Int → Txt
  | .mk kind at_ n ty name l a, tight =>
    if kind = 1 then (if ty = 2 then (if n = 1 then tTrue else tFalse) else ⟨(Lib.itoa n).toArray⟩)
    else if kind = 2 then name
    else if kind = 4 then name ++ (tLeft ++ joinT (textsP a 0 0) commaSp ++ tRight)
    else if kind = 5 then releaseT ++ (textsP a 0 0).getD 0 ⟨#[]⟩ ++ toT ++ printS l ++ tRight
    else if a.length = 1 then name ++ (textsP a 6 0).getD 0 ⟨#[]⟩
    else quoteT (decide (levelT name < tight)) ((textsP a (levelT name) 1).getD 0 ⟨#[]⟩ ++ blank1 ++ name ++ blank1 ++ (textsP a (levelT name) 1).getD 1 ⟨#[]⟩)
def textsP : List Ex → Int → Int → List Txt
  | [], _, _ => []
  | x :: r, t, d => textP x t :: textsP r (t + d) d
end
end Go.Proofs.YtmepcmnpmhhiiaaGreatDoor
namespace Go.Proofs.YtmepcmnpmhhiiaaGreatDoor
open Go.RowKit
set_option linter.unusedVariables false
set_option linter.unusedSimpArgs false

/-- A world without one of its blocks: what is read there doesn't hang on it. -/
def mask (B : Nat) (w : World) : World := { w with heap := w.heap.setIfInBounds B (.cells #[] 0 (0, 0)) }
theorem mask_size (B : Nat) (w : World) : (mask B w).heap.size = w.heap.size := by simp [mask]
theorem mask_cell (B : Nat) (w : World) (b o : Nat) : (mask B w).cell? ⟨b, o, none⟩ = if b = B then none else w.cell? ⟨b, o, none⟩ := by
  unfold mask World.cell?
  simp only [Array.getElem?_setIfInBounds]
  by_cases h : b = B
  · subst h
    rw [if_pos rfl, if_pos rfl]
    by_cases h2 : b < w.heap.size
    · rw [if_pos h2]; simp
    · rw [if_neg h2]
  · rw [if_neg h, if_neg (fun e => h e.symm)]
theorem mask_keeps (B : Nat) (w : World) : Keeps (mask B w) w := ⟨by rw [mask_size]; exact Nat.le_refl _, fun b o v h => by
  rw [mask_cell] at h
  by_cases e : b = B
  · rw [if_pos e] at h; cases h
  · rw [if_neg e] at h; exact h⟩
/-- A world without some of its blocks. -/
def hide (p : Nat → Bool) (w : World) : World := { w with heap := w.heap.mapIdx fun i o => if p i then .cells #[] 0 (0, 0) else o }
theorem hide_size (p : Nat → Bool) (w : World) : (hide p w).heap.size = w.heap.size := by simp [hide]
theorem hide_cell (p : Nat → Bool) (w : World) (b o : Nat) : (hide p w).cell? ⟨b, o, none⟩ = if p b then none else w.cell? ⟨b, o, none⟩ := by
  unfold hide World.cell?
  simp only [Array.getElem?_mapIdx]
  cases hp : p b with
  | true =>
    cases hb : w.heap[b]? <;> simp
  | false => cases hb : w.heap[b]? <;> simp
theorem hide_keeps (p : Nat → Bool) (w : World) : Keeps (hide p w) w := ⟨by rw [hide_size]; exact Nat.le_refl _, fun b o v h => by
  rw [hide_cell] at h
  split at h
  · cases h
  · exact h⟩
theorem keeps_hide {p q : Nat → Bool} {w w' : World} (hs : w.heap.size ≤ w'.heap.size) (h : ∀ b, b < w.heap.size → p b = false → q b = false ∧ w'.heap[b]? = w.heap[b]?) : Keeps (hide p w) (hide q w') :=
  ⟨by rw [hide_size, hide_size]; exact hs, fun b o v hv => by
    rw [hide_cell] at hv ⊢
    cases hp : p b with
    | true => simp [hp] at hv
    | false =>
      simp only [hp, Bool.false_eq_true, if_false] at hv
      obtain ⟨h1, h2⟩ := h b (cell_lt hv) hp
      simp only [h1, Bool.false_eq_true, if_false]
      rw [World.cell?_of_block (a := ⟨b, o, none⟩) h2]
      exact hv⟩
/-- A world without what is older. -/
abbrev since (n : Nat) (w : World) : World := hide (fun b => decide (b < n)) w
/-- All but one block of a world stands. -/
abbrev Aside1 (B : Nat) (w w' : World) : Prop := w.grownBy w' (some B)
section
variable {B : Nat} {w w' w'' : World}
theorem Aside1.refl (B : Nat) (w : World) : Aside1 B w w := World.grownBy.refl w _
theorem Aside1.trans (h : Aside1 B w w') (k : Aside1 B w' w'') : Aside1 B w w'' :=
  ⟨k.os.trans h.os, k.tape.trans h.tape, k.output.trans h.output, Nat.le_trans h.size k.size, fun i hi hne => (k.block i (Nat.lt_of_lt_of_le hi h.size) hne).trans (h.block i hi hne)⟩
theorem aside_below (h : Below w.heap.size w w') : Aside1 B w w' := ⟨h.os, h.tape, h.output, h.size, fun i hi _ => h.block i hi⟩
theorem aside_set (o : Nat) (v : Value) : Aside1 B w (w.setCell ⟨B, o, none⟩ v) :=
  ⟨rfl, rfl, rfl, by simp [World.setCell], fun i hi hne => Below.heap_setCell _ _ _ _ (fun e => hne (by simp [e]))⟩
theorem Aside1.keeps (h : Aside1 B w w') : Keeps (mask B w) (mask B w') := ⟨by rw [mask_size, mask_size]; exact h.size, fun b o v hv => by
  rw [mask_cell] at hv ⊢
  by_cases e : b = B
  · rw [if_pos e] at hv; cases hv
  · rw [if_neg e] at hv ⊢
    have hb := cell_lt hv
    rw [World.cell?_of_block (a := ⟨b, o, none⟩) (h.block b hb (fun e2 => e (by simpa using e2)))]
    exact hv⟩
theorem Aside1.cell (h : Aside1 B w w') {b o : Nat} {v : Value} (hb : b ≠ B) (hv : w.cell? ⟨b, o, none⟩ = some v) : w'.cell? ⟨b, o, none⟩ = some v := by
  rw [World.cell?_of_block (a := ⟨b, o, none⟩) (h.block b (cell_lt hv) (fun e2 => hb (by simpa using e2)))]
  exact hv
/-- What is written is above what stood. -/
theorem below_aside {n : Nat} {u : World} (h : Below n u w) (k : Aside1 B w w') (hn : n ≤ w.heap.size) (hB : n ≤ B) : Below n u w' :=
  h.grown k hn (fun i hi => by simp at hi; omega)
end
theorem since_aside {B n : Nat} {w w' : World} (h : Aside1 B w w') (hB : B < n) : Keeps (since n w) (since n w') :=
  keeps_hide h.size fun b hb hp => ⟨hp, h.block b hb (fun e => by simp at e hp; omega)⟩
theorem since_mono {n m : Nat} (w : World) (h : n ≤ m) : Keeps (since m w) (since n w) :=
  keeps_hide (Nat.le_refl _) fun b hb hp => ⟨by simp at hp ⊢; omega, rfl⟩
/-- The table of spaces stands. -/
abbrev Tab (w : World) : Prop := Lib.TabIs Tryz.prog w "strings.asciiSpace" .u8 Lib.asciiSpaceTab
theorem tab_same {w w' : World} (h : Tab w) (e : 1 < w.heap.size → w'.heap[1]? = w.heap[1]?) : Tab w' := by
  have hgn : Tryz.prog.globalNamed "strings.asciiSpace" = some 1 := by kernel_rfl
  unfold Tab Lib.TabIs World.var? at h ⊢
  rw [hgn] at h ⊢
  simp only [Option.bind_some] at h ⊢
  have hlt : 1 < w.heap.size := by
    rcases Nat.lt_or_ge 1 w.heap.size with h' | h'
    · exact h'
    · rw [Array.getElem?_eq_none h'] at h; cases h
  rw [e hlt]
  exact h
theorem Tab.below {w w' : World} (h : Tab w) (hb : Below w.heap.size w w') : Tab w' := tab_same h fun hl => hb.block _ hl
theorem tab_ne {w : World} {B : Nat} (h : Tab (mask B w)) : 1 ≠ B := by
  intro e
  have hgn : Tryz.prog.globalNamed "strings.asciiSpace" = some 1 := by kernel_rfl
  unfold Tab Lib.TabIs World.var? at h
  rw [hgn] at h
  simp only [Option.bind_some, mask, e, Array.getElem?_setIfInBounds_self] at h
  by_cases hb : B < w.heap.size
  · rw [if_pos hb] at h
    have h2 := congrArg (fun o => o.map Array.size) h
    revert h2
    decide +kernel
  · rw [if_neg hb] at h
    cases h
theorem mask_at {w : World} {B b : Nat} (h : b ≠ B) : (mask B w).heap[b]? = w.heap[b]? := by
  unfold mask
  simp only [Array.getElem?_setIfInBounds]
  rw [if_neg (fun e => h e.symm)]
theorem Tab.bare {w : World} {B : Nat} (h : Tab (mask B w)) : Tab w := tab_same h fun _ => (mask_at (tab_ne h)).symm
theorem Tab.aside {w w' : World} {B : Nat} (h : Tab (mask B w)) (ha : Aside1 B w w') : Tab (mask B w') := tab_same h fun hl => by
  have hn := tab_ne h
  rw [mask_at hn, mask_at hn, ha.block _ (by rw [mask_size] at hl; exact hl) (fun e => hn (by simpa using e))]
/-- The reader of tokens. -/
structure Rdr (w : World) (B : Nat) (T : List Tok) (E : Int) (tv : Value) (k : Nat) (dp ns : Nat) : Prop where
  blk : w.heap[B]? = some (.cells #[tv, .int .i64 k, .int .i64 E, .int .i64 dp, .int .i64 ns] 164 (0, 0))
  toks : Toks (mask B w) T tv
  tab : Tab (mask B w)
section
variable {w w' : World} {B : Nat} {T : List Tok} {E : Int} {tv : Value} {k dp ns : Nat}
theorem Rdr.lt (h : Rdr w B T E tv k dp ns) : B < w.heap.size := (Array.getElem?_eq_some_iff.1 h.blk).1
theorem Rdr.c0 (h : Rdr w B T E tv k dp ns) : w.cell? ⟨B, 0, none⟩ = some tv := by simp [World.cell?, h.blk]
theorem Rdr.c1 (h : Rdr w B T E tv k dp ns) : w.cell? ⟨B, 1, none⟩ = some (.int .i64 k) := by simp [World.cell?, h.blk]
theorem Rdr.c2 (h : Rdr w B T E tv k dp ns) : w.cell? ⟨B, 2, none⟩ = some (.int .i64 E) := by simp [World.cell?, h.blk]
theorem Rdr.c3 (h : Rdr w B T E tv k dp ns) : w.cell? ⟨B, 3, none⟩ = some (.int .i64 dp) := by simp [World.cell?, h.blk]
theorem Rdr.c4 (h : Rdr w B T E tv k dp ns) : w.cell? ⟨B, 4, none⟩ = some (.int .i64 ns) := by simp [World.cell?, h.blk]
theorem Rdr.fz (h : Rdr w B T E tv k dp ns) (i : Nat) : w.frozen? ⟨B, i, none⟩ = false := by simp [World.frozen?, h.blk]
theorem Rdr.below (h : Rdr w B T E tv k dp ns) (hb : Below w.heap.size w w') : Rdr w' B T E tv k dp ns :=
  ⟨by rw [hb.block B h.lt]; exact h.blk, h.toks.stays (aside_below hb).keeps, h.tab.aside (aside_below hb)⟩
theorem Rdr.setK (h : Rdr w B T E tv k dp ns) (k' : Nat) : Rdr (w.setCell ⟨B, 1, none⟩ (.int .i64 k')) B T E tv k' dp ns :=
  ⟨by simp [World.setCell, Array.getElem?_modify, h.blk], h.toks.stays (aside_set _ _).keeps, h.tab.aside (aside_set _ _)⟩
theorem Rdr.setD (h : Rdr w B T E tv k dp ns) (k' : Nat) : Rdr (w.setCell ⟨B, 3, none⟩ (.int .i64 k')) B T E tv k k' ns :=
  ⟨by simp [World.setCell, Array.getElem?_modify, h.blk], h.toks.stays (aside_set _ _).keeps, h.tab.aside (aside_set _ _)⟩
theorem Rdr.setN (h : Rdr w B T E tv k dp ns) (k' : Nat) : Rdr (w.setCell ⟨B, 4, none⟩ (.int .i64 k')) B T E tv k dp k' :=
  ⟨by simp [World.setCell, Array.getElem?_modify, h.blk], h.toks.stays (aside_set _ _).keeps, h.tab.aside (aside_set _ _)⟩
theorem Rdr.open' (h : Rdr w B T E tv k dp ns) : ∃ bt ot ct pt, tv = .slice pt T.length ct ∧ T.length ≤ ct ∧ ct ≤ 9223372036854775807 ∧ (0 < T.length → pt = some ⟨bt, ot, none⟩) ∧
    ∀ (i : Nat) (h : i < T.length), w.cell? ⟨bt, ot + i * 3, none⟩ = some (.int .i64 T[i].1) ∧ w.cell? ⟨bt, ot + i * 3 + 1, none⟩ = some (.int .i64 T[i].2.1) ∧ w.cell? ⟨bt, ot + i * 3 + 2, none⟩ = some (.string T[i].2.2) := by
  obtain ⟨p, c, e, h1, h2, h3⟩ := h.toks.stays (mask_keeps B w)
  unfold maxLen at h2
  rcases h3 with rfl | ⟨b, o, hp, h3⟩
  · exact ⟨0, 0, c, p, e, h1, by omega, fun h => absurd h (by simp), fun i h => absurd h (by simp)⟩
  · refine ⟨b, o, c, p, e, h1, by omega, fun _ => hp, fun i hi => ?_⟩
    obtain ⟨vs, ⟨us, us', e1, e2, us2, us3, e3, e4, e5⟩, g2, g3⟩ := h3 i hi
    have e2' : us = [.int .i64 T[i].1] := e2
    have e4' : us2 = [.int .i64 T[i].2.1] := e4
    have e5' : us3 = [.string T[i].2.2] := e5
    subst e2' e4' e5' e3 e1
    exact ⟨by simpa using g3 0 _ rfl, by simpa using g3 1 _ rfl, by simpa using g3 2 _ rfl⟩
end
/-- A panic of the reader. -/
def stopV (c a : Int) : Value := .iface 160 (.agg #[.int .i64 c, .int .i64 a])
/-- The reader's block is still one, whatever its numbers. -/
def Left (w : World) (B : Nat) (E : Int) (tv : Value) : Prop := ∃ k a b : Int, w.heap[B]? = some (.cells #[tv, .int .i64 k, .int .i64 E, .int .i64 a, .int .i64 b] 164 (0, 0))
theorem Rdr.left {w : World} {B : Nat} {T : List Tok} {E : Int} {tv : Value} {k dp ns : Nat} (h : Rdr w B T E tv k dp ns) : Left w B E tv := ⟨k, dp, ns, h.blk⟩
theorem Left.below {w w' : World} {B : Nat} {E : Int} {tv : Value} (h : Left w B E tv) (hb : Below w.heap.size w w') : Left w' B E tv := by
  obtain ⟨k, a, b, h⟩ := h
  exact ⟨k, a, b, by rw [hb.block B (Array.getElem?_eq_some_iff.1 h).1]; exact h⟩
/-- What a step of the reader does. -/
def Does {α : Type} (w : World) (B : Nat) (T : List Tok) (E : Int) (tv : Value) (dp ns : Nat) (X : World → α → Value → Prop) (r : Rs α) (e : Ending) (w' : World) : Prop :=
  Aside1 B w w' ∧ match r with
    | .ok x k => ∃ v, e = .returned v ∧ Rdr w' B T E tv k dp ns ∧ X (since w.heap.size w') x v
    | .bad c a => e = .panicked [{ v := stopV c a, recovered := false }] ∧ Left w' B E tv
end Go.Proofs.YtmepcmnpmhhiiaaGreatDoor
namespace Go.Proofs.YtmepcmnpmhhiiaaGreatDoor
open Go.RowKit
set_option linter.unusedVariables false
set_option linter.unusedSimpArgs false

/-- `[]int`. -/
abbrev Nums (w : World) (l : List Int) (v : Value) : Prop := SliceOf num 1 w l v
theorem Nums.stays {w w' : World} (hk : Keeps w w') {l : List Int} {v : Value} (h : Nums w l v) : Nums w' l v := SliceOf.stays (One.stays _) hk h
/-- A slice of data of one cell each, opened: its length, its room; its cells. -/
theorem One.cells {α : Type} {f : α → Value} {w : World} {l : List α} {v : Value} (h : SliceOf (One f) 1 w l v) :
    ∃ b o c p, v = .slice p l.length c ∧ l.length ≤ c ∧ c ≤ 9223372036854775807 ∧ (0 < l.length → p = some ⟨b, o, none⟩) ∧ ∀ (i : Nat) (h : i < l.length), w.cell? ⟨b, o + i, none⟩ = some (f l[i]) := by
  obtain ⟨p, c, e, h1, h2, h3⟩ := h
  unfold maxLen at h2
  rcases h3 with rfl | ⟨b, o, hp, h3⟩
  · exact ⟨0, 0, c, p, e, h1, by omega, fun h => absurd h (by simp), fun i h => absurd h (by simp)⟩
  · refine ⟨b, o, c, p, e, h1, by omega, fun _ => hp, fun i hi => ?_⟩
    obtain ⟨vs, g1, g2, g3⟩ := h3 i hi
    have := g3 0 (f l[i]) (by rw [g1]; rfl)
    simpa using this

theorem eq_len {α : Type} [BEq α] {l m : List α} (h : l.length ≠ m.length) : (l == m) = false := by
  induction l generalizing m with
  | nil => cases m with
    | nil => simp at h
    | cons y m => rfl
  | cons x l ih => cases m with
    | nil => rfl
    | cons y m =>
      have : (l == m) = false := ih (by simpa using h)
      show (x == y && l == m) = false
      rw [this]; simp
theorem eq_at {α : Type} [BEq α] [LawfulBEq α] {l m : List α} {k : Nat} (h1 : k < l.length) (h2 : k < m.length) (h : (l[k] == m[k]) = false) : (l == m) = false := by
  rw [beq_eq_false_iff_ne]
  rintro rfl
  simp at h
theorem eq_all {α : Type} [BEq α] [LawfulBEq α] {l m : List α} (hn : l.length = m.length) (h : ∀ j (h1 : j < l.length) (h2 : j < m.length), (l[j] == m[j]) = true) : (l == m) = true := by
  rw [beq_iff_eq]
  exact List.ext_getElem hn fun j h1 h2 => by simpa using h j h1 h2

theorem below_drewN {B : Nat} {a w : World} (h : Below B a w) (n : Nat) : Below B a (w.drewN n) := ⟨h.os, h.tape, h.output, h.size, h.block⟩
/-- The world is the old one, but for answers drawn. -/
def Quiet (w w' : World) : Prop := ∃ n, w' = w.drewN n
theorem Quiet.below {w w' : World} (h : Quiet w w') : Below w.heap.size w w' := by
  obtain ⟨n, rfl⟩ := h
  have h := Below.refl w.heap.size w
  exact ⟨h.os, h.tape, h.output, h.size, h.block⟩

end Go.Proofs.YtmepcmnpmhhiiaaGreatDoor
namespace Go.Proofs.YtmepcmnpmhhiiaaGreatDoor
open Go.RowKit
set_option linter.unusedVariables false
set_option linter.unusedSimpArgs false

section
variable {w : World} {B : Nat} {T : List Tok} {E : Int} {tv : Value} {k dp ns : Nat}
theorem tkAt_lt {k : Nat} (h : k < T.length) (E : Int) : tkAt T E k = T[k].2.1 := by unfold tkAt; rw [List.getElem?_eq_getElem h]
theorem tkAt_ge {k : Nat} (h : ¬ k < T.length) (E : Int) : tkAt T E k = E := by unfold tkAt; rw [List.getElem?_eq_none (by omega)]
theorem tkNext_lt {k : Nat} (h : k < T.length) : tkNext T k = T[k] := by unfold tkNext; rw [List.getElem?_eq_getElem h]; rfl
theorem tkNext_ge {k : Nat} (h : ¬ k < T.length) : tkNext T k = (0, 0, ⟨#[]⟩) := by unfold tkNext; rw [List.getElem?_eq_none (by omega)]; rfl
set_option maxHeartbeats 1000000 in
set_option maxRecDepth 100000 in
theorem at_calls (h : Rdr w B T E tv k dp ns) : Calls Tryz.prog 155 #[.pointer (some ⟨B, 0, none⟩)] w fun e w' => e = .returned (.int .i64 (tkAt T E k)) ∧ Below w.heap.size w w' := by
  obtain ⟨bt, ot, ct, pt, rfl, hlt, hct, hpt, hcells⟩ := h.open'
  have h0 := h.c0
  have h1 := h.c1
  have h2 := h.c2
  by_cases hk : k < T.length
  · obtain ⟨g0, g1, g2⟩ := hcells k hk
    obtain rfl := hpt (by omega)
    have HA := Lib.hid (tkAt_lt hk E)
    have hk' : (k : Int) < (T.length : Int) := by omega
    have hk0 : (0 : Int) ≤ (k : Int) := by omega
    generalize T[k] = t at *
    clear hcells hpt h
    go_enter Tryz.func155, Tryz.ntmps155
    go_wp2_with (fail)
    go_quiet (fail)
    go_wp2_with (fail)
    go_quiet (fail)
    go_wp2_with (fail)
    go_ret
    exact ⟨by rw [HA.out]; rfl, below_drewN (below_drewN (Below.refl _ _) _) _⟩
  · have HA := Lib.hid (tkAt_ge hk E)
    have hk' : ¬ (k : Int) < (T.length : Int) := by omega
    clear hcells hpt h
    go_enter Tryz.func155, Tryz.ntmps155
    go_wp2_with (fail)
    go_quiet (fail)
    go_wp2_with (fail)
    go_ret
    exact ⟨by rw [HA.out]; rfl, below_drewN (Below.refl _ _) _⟩
theorem cells3 {W : World} {b : Nat} {x y z : Value} (h0 : W.cell? ⟨b, 0, none⟩ = some x) (h1 : W.cell? ⟨b, 1, none⟩ = some y) (h2 : W.cell? ⟨b, 2, none⟩ = some z) (u v t : Value) :
    (((W.setCell ⟨b, 0, none⟩ u).setCell ⟨b, 1, none⟩ v).setCell ⟨b, 2, none⟩ t).cell? ⟨b, 0, none⟩ = some u ∧ (((W.setCell ⟨b, 0, none⟩ u).setCell ⟨b, 1, none⟩ v).setCell ⟨b, 2, none⟩ t).cell? ⟨b, 1, none⟩ = some v ∧ (((W.setCell ⟨b, 0, none⟩ u).setCell ⟨b, 1, none⟩ v).setCell ⟨b, 2, none⟩ t).cell? ⟨b, 2, none⟩ = some t := by
  have e1 : (W.setCell ⟨b, 0, none⟩ u).cell? ⟨b, 1, none⟩ = some y := by rw [World.cell?_setCell_other _ _ _ _ (by simp)]; exact h1
  have e2 : ((W.setCell ⟨b, 0, none⟩ u).setCell ⟨b, 1, none⟩ v).cell? ⟨b, 2, none⟩ = some z := by rw [World.cell?_setCell_other _ _ _ _ (by simp), World.cell?_setCell_other _ _ _ _ (by simp)]; exact h2
  refine ⟨?_, ?_, World.cell?_setCell_same _ _ _ e2⟩
  · rw [World.cell?_setCell_other _ _ _ _ (by simp), World.cell?_setCell_other _ _ _ _ (by simp)]; exact World.cell?_setCell_same _ _ _ h0
  · rw [World.cell?_setCell_other _ _ _ _ (by simp)]; exact World.cell?_setCell_same _ _ _ e1
theorem frozen_new (W : World) (c : Array Value) (t : TypeId) (i : Nat) : (W.alloc (.cells c t)).frozen? ⟨W.heap.size, i, none⟩ = false := by
  unfold World.frozen?
  rw [heap_alloc_new]
  simp
set_option maxHeartbeats 1000000 in
set_option maxRecDepth 100000 in
theorem next_calls (h : Rdr w B T E tv k dp ns) : Calls Tryz.prog 133 #[.pointer (some ⟨B, 0, none⟩)] w fun e w' => e = .returned (.agg #[.int .i64 (tkNext T k).1, .int .i64 (tkNext T k).2.1, .string (tkNext T k).2.2]) ∧ Below w.heap.size w w' := by
  obtain ⟨W1, eW⟩ : ∃ W1, w.alloc (.cells #[.int .i64 0, .int .i64 0, .string ⟨#[]⟩] 153) = W1 := ⟨_, rfl⟩
  obtain ⟨z1, hW, m1⟩ := boxes1 eW
  have hfz : ∀ i, W1.frozen? ⟨w.heap.size, i, none⟩ = false := fun i => by rw [← eW]; exact frozen_new _ _ _ i
  have h' := h.below hW
  obtain ⟨bt, ot, ct, pt, rfl, hlt, hct, hpt, hcells⟩ := h'.open'
  have HW := Lib.hid hW
  have HX : Hid (∀ W, Below W1.heap.size W1 W → W.cell? ⟨B, 0, none⟩ = some (.slice pt T.length ct) ∧ W.cell? ⟨B, 1, none⟩ = some (.int .i64 k) ∧ W.cell? ⟨w.heap.size, 0, none⟩ = some (.int .i64 0) ∧ W.cell? ⟨w.heap.size, 1, none⟩ = some (.int .i64 0) ∧ W.cell? ⟨w.heap.size, 2, none⟩ = some (.string ⟨#[]⟩) ∧
      W.frozen? ⟨w.heap.size, 0, none⟩ = false ∧ W.frozen? ⟨w.heap.size, 1, none⟩ = false ∧ W.frozen? ⟨w.heap.size, 2, none⟩ = false) := fun W hb => by
    have hz : w.heap.size < W1.heap.size := by omega
    exact ⟨(hb.cell (p := ⟨B, 0, none⟩) h'.lt).trans h'.c0, (hb.cell (p := ⟨B, 1, none⟩) h'.lt).trans h'.c1, (hb.cell (p := ⟨w.heap.size, 0, none⟩) hz).trans (m1 0), (hb.cell (p := ⟨w.heap.size, 1, none⟩) hz).trans (m1 1), (hb.cell (p := ⟨w.heap.size, 2, none⟩) hz).trans (m1 2),
      (hb.frozen (p := ⟨w.heap.size, 0, none⟩) hz).trans (hfz 0), (hb.frozen (p := ⟨w.heap.size, 1, none⟩) hz).trans (hfz 1), (hb.frozen (p := ⟨w.heap.size, 2, none⟩) hz).trans (hfz 2)⟩
  obtain ⟨a0, a1, a2, a3, a4, a5, a6, a7⟩ := HX.out W1 (Below.refl _ _)
  have HZ : Hid (w.heap.size ≤ w.heap.size) := Nat.le_refl _
  by_cases hk : k < T.length
  · obtain ⟨g0, g1, g2⟩ := hcells k hk
    obtain rfl := hpt (by omega)
    have HA := Lib.hid (tkNext_lt hk)
    have hk' : (k : Int) < (T.length : Int) := by omega
    have hk0 : (0 : Int) ≤ (k : Int) := by omega
    generalize T[k] = t at *
    have HG : Hid (∀ W, Below W1.heap.size W1 W → W.cell? ⟨bt, ot + k * 3, none⟩ = some (.int .i64 t.1) ∧ W.cell? ⟨bt, ot + k * 3 + 1, none⟩ = some (.int .i64 t.2.1) ∧ W.cell? ⟨bt, ot + k * 3 + 2, none⟩ = some (.string t.2.2)) := fun W hb =>
      ⟨(hb.cell (cell_lt g0)).trans g0, (hb.cell (cell_lt g1)).trans g1, (hb.cell (cell_lt g2)).trans g2⟩
    clear hcells hpt h h' m1 z1 hW g0 g1 g2 hfz
    go_enter Tryz.func133, Tryz.ntmps133
    go_wp2_with (fail)
    go_quiet (fail)
    go_wp2_with (fail)
    obtain ⟨W2, e2⟩ : ∃ W2, (W1.drewN nq).drew = W2 := ⟨_, rfl⟩
    have hb2 : Below W1.heap.size W1 W2 := by rw [← e2]; exact (below_drewN (Below.refl _ _) _).drew
    have HB2 := Lib.hid hb2
    obtain ⟨b0, b1, b2, b3, b4, b5, b6, b7⟩ := HX.out W2 hb2
    obtain ⟨c0, c1, c2⟩ := HG.out W2 hb2
    clear hb2 a0 a1 a2 a3 a4 a5 a6 a7 eW
    refine wp_region_calm_tail 10 (by kernel_rfl) (by kernel_rfl) ?_
    rw [e2]
    clear e2
    simp only [List.take_succ_cons, List.take_zero, List.drop_succ_cons, List.drop_zero]
    repeat go_big_quiet_step (fail)
    refine wpQuiet_nil ?_
    go_wp2
    refine bodyPost_ret (v := .agg #[.int .i64 t.1, .int .i64 t.2.1, .string t.2.2]) ?_ rfl ⟨by rw [HA.out], ?_⟩
    · obtain ⟨q0, q1, q2⟩ := cells3 b2 b3 b4 (.int .i64 t.1) (.int .i64 t.2.1) (.string t.2.2)
      simp [results, Tryz.results133, go_sem, q0, q1, q2]
    · exact (((HW.out.trans (HB2.out.mono HW.out.size)).setCell HZ.out _).setCell HZ.out _).setCell HZ.out _
  · have HA := Lib.hid (tkNext_ge hk)
    have hk' : ¬ (k : Int) < (T.length : Int) := by omega
    clear hcells hpt h h' m1 z1 hW hfz
    go_enter Tryz.func133, Tryz.ntmps133
    go_wp2_with (fail)
    go_quiet (fail)
    obtain ⟨W2, e2⟩ : ∃ W2, (W1.drewN nq) = W2 := ⟨_, rfl⟩
    have hb2 : Below W1.heap.size W1 W2 := by rw [← e2]; exact below_drewN (Below.refl _ _) _
    have HB2 := Lib.hid hb2
    obtain ⟨b0, b1, b2, b3, b4, b5, b6, b7⟩ := HX.out W2 hb2
    clear hb2 a0 a1 a2 a3 a4 a5 a6 a7 eW
    rw [e2]
    clear e2
    go_wp2_with (fail)
    refine bodyPost_ret (v := .agg #[.int .i64 0, .int .i64 0, .string ⟨#[]⟩]) ?_ rfl ⟨by rw [HA.out], ?_⟩
    · obtain ⟨q0, q1, q2⟩ := cells3 b2 b3 b4 (.int .i64 0) (.int .i64 0) (.string ⟨#[]⟩)
      simp [results, Tryz.results133, go_sem, q0, q1, q2]
    · exact (((HW.out.trans (HB2.out.mono HW.out.size)).setCell HZ.out _).setCell HZ.out _).setCell HZ.out _
set_option maxHeartbeats 1000000 in
set_option maxRecDepth 100000 in
theorem fail_calls (h : Rdr w B T E tv k dp ns) (c : Int) : Calls Tryz.prog 127 #[.pointer (some ⟨B, 0, none⟩), .int .i64 c] w fun e w' => e = .panicked [{ v := stopV c (tkAt T E k), recovered := false }] ∧ Below w.heap.size w w' := by
  have HA := Lib.hid (at_calls h)
  clear h
  go_enter Tryz.func127, Tryz.ntmps127
  go_wp2_with (fail)
  refine HA.out.mono ?_
  rintro e w1 ⟨rfl, hb1⟩
  have HB := Lib.hid hb1
  clear hb1
  go_wp2_with (fail)
  exact ⟨rfl, rfl, HB.out⟩
set_option maxHeartbeats 1000000 in
set_option maxRecDepth 100000 in
theorem is_calls (h : Rdr w B T E tv k dp ns) (s : Txt) : Calls Tryz.prog 156 #[.pointer (some ⟨B, 0, none⟩), .string s] w fun e w' => e = .returned (.bool (tkIs T k s)) ∧ Below w.heap.size w w' := by
  have HA := Lib.hid (next_calls h)
  have HT : Hid (tkIs T k s = (((tkNext T k).1 == 3 || (tkNext T k).1 == 4) && (tkNext T k).2.2 == s)) := rfl
  clear h
  generalize tkNext T k = t at *
  go_enter Tryz.func156, Tryz.ntmps156
  go_wp2_with (fail)
  refine HA.out.mono ?_
  rintro e w1 ⟨rfl, hb1⟩
  have HB := Lib.hid hb1
  clear hb1
  have HS : Hid ((t.2.2.toList == s.toList) = (t.2.2 == s)) := by
    unfold Hid
    rw [Bool.eq_iff_iff, bytes_eq, beq_iff_eq]
  go_wp2_with (fail)
  all_goals (
    go_ret
    refine ⟨?_, HB.out.alloc HB.out.size _⟩
    rw [HT.out]
    first
      | exact ret_bool (by rw [HS.out]; simp [*])
      | exact ret_bool (by simp [*]))
theorem tkIs_lt {k : Nat} {s : Txt} (h : tkIs T k s = true) : k < T.length := by
  apply Decidable.byContradiction
  intro hk
  unfold tkIs at h
  rw [tkNext_ge hk] at h
  simp at h
theorem kind_lt {k : Nat} (h : (tkNext T k).1 ≠ 0) : k < T.length := by
  apply Decidable.byContradiction
  intro hk
  rw [tkNext_ge hk] at h
  simp at h
theorem Rdr.len (h : Rdr w B T E tv k dp ns) : T.length ≤ 9223372036854775807 := by
  obtain ⟨_, _, _, _, _, h1, h2, _⟩ := h.open'
  omega
set_option maxHeartbeats 1000000 in
set_option maxRecDepth 100000 in
theorem eat_yes (h : Rdr w B T E tv k dp ns) (s : Txt) (hs : tkIs T k s = true) : Calls Tryz.prog 129 #[.pointer (some ⟨B, 0, none⟩), .string s] w fun e w' => e = .returned (.bool true) ∧ Aside1 B w w' ∧ Rdr w' B T E tv (k + 1) dp ns := by
  have HI := Lib.hid (is_calls h s)
  rw [hs] at HI
  have hk := tkIs_lt hs
  have hl := h.len
  have hw : (k : Int) + 1 ≤ 9223372036854775807 := by omega
  have H := Lib.hid h
  clear h hs
  go_enter Tryz.func129, Tryz.ntmps129
  go_wp2_with (fail)
  refine HI.out.mono ?_
  rintro e w1 ⟨rfl, hb1⟩
  have H1 := Lib.hid (H.out.below hb1)
  have HB := Lib.hid hb1
  have c1 := H1.out.c1
  have f1 := H1.out.fz 1
  clear hb1
  go_wp2_with (fail)
  go_ret
  exact ⟨rfl, (aside_below HB.out).trans (aside_set _ _), H1.out.setK (k + 1)⟩
set_option maxHeartbeats 1000000 in
set_option maxRecDepth 100000 in
theorem eat_no (h : Rdr w B T E tv k dp ns) (s : Txt) (hs : tkIs T k s = false) : Calls Tryz.prog 129 #[.pointer (some ⟨B, 0, none⟩), .string s] w fun e w' => e = .returned (.bool false) ∧ Aside1 B w w' ∧ Rdr w' B T E tv k dp ns := by
  have HI := Lib.hid (is_calls h s)
  rw [hs] at HI
  have H := Lib.hid h
  clear h hs
  go_enter Tryz.func129, Tryz.ntmps129
  go_wp2_with (fail)
  refine HI.out.mono ?_
  rintro e w1 ⟨rfl, hb1⟩
  have H1 := Lib.hid (H.out.below hb1)
  have HB := Lib.hid hb1
  clear hb1
  go_wp2_with (fail)
  go_ret
  exact ⟨rfl, aside_below HB.out, H1.out⟩
set_option maxHeartbeats 1000000 in
set_option maxRecDepth 100000 in
theorem must_calls (h : Rdr w B T E tv k dp ns) (s : Txt) : Calls Tryz.prog 128 #[.pointer (some ⟨B, 0, none⟩), .string s] w (Does w B T E tv dp ns (fun _ _ v => v = .tuple #[]) (mustP T E s k)) := by
  cases hs : tkIs T k s with
  | true =>
    have HI := Lib.hid (eat_yes h s hs)
    have HP : Hid (mustP T E s k = .ok () (k + 1)) := by unfold Hid mustP; rw [if_pos hs]
    clear h hs
    go_enter Tryz.func128, Tryz.ntmps128
    go_wp2_with (fail)
    refine HI.out.mono ?_
    rintro e w1 ⟨rfl, ha, hr⟩
    have HA := Lib.hid ha
    have HR := Lib.hid hr
    clear ha hr
    go_wp2_with (fail)
    refine bodyPost_ret (results_none rfl _ _ _) rfl ?_
    rw [HP.out]
    exact ⟨HA.out, _, rfl, HR.out, rfl⟩
  | false =>
    have HI := Lib.hid (eat_no h s hs)
    have HP : Hid (mustP T E s k = failP T E 1 k) := by unfold Hid mustP; rw [if_neg (by simp [hs])]
    clear h hs
    go_enter Tryz.func128, Tryz.ntmps128
    go_wp2_with (fail)
    refine HI.out.mono ?_
    rintro e w1 ⟨rfl, ha, hr⟩
    have HA := Lib.hid ha
    have HF := Lib.hid (fail_calls hr 1)
    have HR := Lib.hid hr
    clear ha hr
    go_wp2_with (fail)
    refine HF.out.mono ?_
    rintro e w2 ⟨rfl, hb2⟩
    have HB := Lib.hid (HA.out.trans (aside_below hb2))
    have HLF := Lib.hid (HR.out.below hb2).left
    clear hb2
    go_wp2_with (fail)
    rw [HP.out]
    exact ⟨rfl, HB.out, rfl, HLF.out⟩
set_option maxHeartbeats 1000000 in
set_option maxRecDepth 100000 in
theorem nameP_calls (h : Rdr w B T E tv k dp ns) : Calls Tryz.prog 132 #[.pointer (some ⟨B, 0, none⟩)] w (Does w B T E tv dp ns (fun _ x v => v = .string x) (nameP T E k)) := by
  have HI := Lib.hid (next_calls h)
  have H := Lib.hid h
  have hl := h.len
  by_cases hs : (tkNext T k).1 = 1
  · have HP : Hid (nameP T E k = .ok (tkNext T k).2.2 (k + 1)) := by unfold Hid nameP; rw [if_pos hs]
    have hk : k < T.length := kind_lt (by omega)
    have hw : (k : Int) + 1 ≤ 9223372036854775807 := by omega
    generalize tkNext T k = t at *
    clear h
    go_enter Tryz.func132, Tryz.ntmps132
    go_wp2_with (fail)
    refine HI.out.mono ?_
    rintro e w1 ⟨rfl, hb1⟩
    obtain ⟨W2, eW⟩ : ∃ W2, w1.alloc (.cells #[.int .i64 1, .int .i64 t.2.1, .string t.2.2] 153) = W2 := ⟨_, rfl⟩
    obtain ⟨z2, hW, m1⟩ := boxes1 eW
    have j0 := m1 0
    have j2 := m1 2
    simp only [List.getElem?_toArray, List.getElem?_cons_zero, List.getElem?_cons_succ] at j0 j2
    have hb2 := hb1.trans (hW.mono hb1.size)
    have H2 := Lib.hid (H.out.below hb2)
    have c1 := H2.out.c1
    have f1 := H2.out.fz 1
    have hne : w1.heap.size ≠ B := by have := H.out.lt; have := hb1.size; omega
    have jj2 : (W2.setCell ⟨B, 1, none⟩ (.int .i64 ((k : Int) + 1))).cell? ⟨w1.heap.size, 2, none⟩ = some (.string t.2.2) := by rw [World.cell?_setCell_other _ _ _ _ (by simp [hne])]; exact j2
    have HA := Lib.hid (aside_below (B := B) hb2)
    clear hb1 hb2 hW z2 m1 hne
    rw [hs]
    go_wp2_with (fail)
    go_ret
    rw [HP.out]
    exact ⟨HA.out.trans (aside_set _ _), _, rfl, H2.out.setK (k + 1), rfl⟩
  · have HP : Hid (nameP T E k = failP T E 1 k) := by unfold Hid nameP; rw [if_neg hs]
    generalize tkNext T k = t at *
    clear h
    go_enter Tryz.func132, Tryz.ntmps132
    go_wp2_with (fail)
    refine HI.out.mono ?_
    rintro e w1 ⟨rfl, hb1⟩
    obtain ⟨W2, eW⟩ : ∃ W2, w1.alloc (.cells #[.int .i64 t.1, .int .i64 t.2.1, .string t.2.2] 153) = W2 := ⟨_, rfl⟩
    obtain ⟨z2, hW, m1⟩ := boxes1 eW
    have j0 := m1 0
    simp only [List.getElem?_toArray, List.getElem?_cons_zero, List.getElem?_cons_succ] at j0
    have hb2 := hb1.trans (hW.mono hb1.size)
    have HF := Lib.hid (fail_calls (H.out.below hb2) 1)
    have HR := Lib.hid (H.out.below hb2)
    have HA := Lib.hid (aside_below (B := B) hb2)
    clear hb1 hb2 hW z2 m1
    go_wp2_with (fail)
    refine HF.out.mono ?_
    rintro e w3 ⟨rfl, hb3⟩
    have HB := Lib.hid (HA.out.trans (aside_below hb3))
    have HLF := Lib.hid (HR.out.below hb3).left
    clear hb3
    go_wp2_with (fail)
    rw [HP.out]
    exact ⟨rfl, HB.out, rfl, HLF.out⟩
set_option maxHeartbeats 1000000 in
set_option maxRecDepth 100000 in
theorem into_calls4 (h : Rdr w B T E tv k dp ns) (hn : ns ≤ 12) : Calls Tryz.prog 186 #[.pointer (some ⟨B, 0, none⟩), .pointer (some ⟨B, 4, none⟩)] w fun e w' => Aside1 B w w' ∧ if ns < 12 then e = .returned (.tuple #[]) ∧ Rdr w' B T E tv k dp (ns + 1) else e = .panicked [{ v := stopV 2 (tkAt T E k), recovered := false }] ∧ Left w' B E tv := by
  have c4 := h.c4
  have f4 := h.fz 4
  have H1 := Lib.hid (h.setN (ns + 1))
  have d4 := H1.out.c4
  have hns : ((ns + 1 : Nat) : Int) = (ns : Int) + 1 := by omega
  rw [hns] at d4 H1
  by_cases hs : ns < 12
  · have hs' : ¬ (12 : Int) < (ns : Int) + 1 := by omega
    clear h hns
    go_enter Tryz.func186, Tryz.ntmps186
    go_wp2_with (fail)
    go_end0
    exact ⟨aside_set _ _, by first | exact ⟨rfl, H1.out⟩ | (rw [if_pos hs]; exact ⟨rfl, H1.out⟩)⟩
  · have hs' : (12 : Int) < (ns : Int) + 1 := by omega
    have HF := Lib.hid (fail_calls H1.out 2)
    clear h hns
    go_enter Tryz.func186, Tryz.ntmps186
    go_wp2_with (fail)
    refine HF.out.mono ?_
    rintro e w3 ⟨rfl, hb3⟩
    have HB := Lib.hid ((aside_set (B := B) (w := w) 4 (.int .i64 ((ns : Int) + 1))).trans (aside_below hb3))
    have HLF := Lib.hid (H1.out.below hb3).left
    clear hb3
    go_wp2_with (fail)
    exact ⟨rfl, HB.out, by first | exact ⟨rfl, HLF.out⟩ | (rw [if_neg hs]; exact ⟨rfl, HLF.out⟩)⟩
end
end Go.Proofs.YtmepcmnpmhhiiaaGreatDoor
namespace Go.Proofs.YtmepcmnpmhhiiaaGreatDoor
open Go.RowKit
set_option linter.unusedVariables false
set_option linter.unusedSimpArgs false

theorem own_aside {w w' : World} {B base : Nat} {e : TypeId} {size : Nat} {v : Value} {n : Nat} {xs : List Value} (h : w.ownsRow base e size v n xs) (hB : B < base) (ha : Aside1 B w w') : w'.ownsRow base e size v n xs :=
  h.kept ha (by
    cases hv : v.ownBlock with
    | none => exact .inl rfl
    | some g =>
      refine .inr fun e => ?_
      have := (h.lt g hv).1
      simp at e
      omega)
theorem own_hide {w : World} {p : Nat → Bool} {base : Nat} {e : TypeId} {size : Nat} {v : Value} {n : Nat} {xs : List Value} (h : w.ownsRow base e size v n xs) (hp : ∀ g, base ≤ g → p g = false) : (hide p w).ownsRow base e size v n xs := by
  refine ⟨h.1, ?_⟩
  rcases h.2 with h2 | ⟨g, cap, cur, e0, e1, e2, e3⟩
  · exact .inl h2
  · refine .inr ⟨g, cap, cur, e0, e1, ?_, e3⟩
    unfold hide
    simp [Array.getElem?_mapIdx, e2, hp g e1]
/-- What a list's elements lie in: nothing old, and not the list's own row. -/
def inList (n : Nat) (lv : Value) : Nat → Bool := fun b => decide (b < n) || (lv.ownBlock == some b)
/-- What stands in the loop of a list. -/
structure LI {α : Type} (Ec : Enc α) (ks : Nat) (et : TypeId) (w wo : World) (B : Nat) (T : List Tok) (E : Int) (tv : Value) (dp ns : Nat) (lv : Value) (xs : List α) (k : Nat) : Prop where
  rdr : Rdr wo B T E tv k dp ns
  aside : Aside1 B w wo
  own : ∃ vals, wo.ownsRow w.heap.size et ks lv xs.length vals ∧ Rows Ec ks (hide (inList w.heap.size lv) wo) xs vals
section
variable {α : Type} {Ec : Enc α} {ks : Nat} {et : TypeId} {w wo wn : World} {B : Nat} {T : List Tok} {E : Int} {tv : Value} {dp ns : Nat} {lv : Value} {xs : List α} {k k' : Nat}
theorem LI.step (hE : Stays Ec) (hB : B < w.heap.size) (h : LI Ec ks et w wo B T E tv dp ns lv xs k) (ha : Aside1 B wo wn) (hr : Rdr wn B T E tv k' dp ns) : LI Ec ks et w wn B T E tv dp ns lv xs k' := by
  obtain ⟨vals, h1, h2⟩ := h.own
  refine ⟨hr, h.aside.trans ha, vals, own_aside h1 hB ha, Rows.stays hE (keeps_hide ha.size fun b hb hp => ⟨hp, ha.block b hb (fun e => ?_)⟩) h2⟩
  simp [inList] at e hp
  omega
theorem LI.below (hE : Stays Ec) (hB : B < w.heap.size) (h : LI Ec ks et w wo B T E tv dp ns lv xs k) (hb : Below wo.heap.size wo wn) : LI Ec ks et w wn B T E tv dp ns lv xs k :=
  h.step hE hB (aside_below hb) (h.rdr.below hb)
theorem LI.done (h : LI Ec ks et w wo B T E tv dp ns lv xs k) (hE : Stays Ec) : SliceOf Ec ks (since w.heap.size wo) xs lv := by
  obtain ⟨vals, h1, h2⟩ := h.own
  refine SliceOf.of_rows (own_hide h1 fun g hg => by simp; omega) (Rows.stays hE (keeps_hide (Nat.le_refl _) fun b hb hp => ⟨?_, rfl⟩) h2)
  simp [inList] at hp ⊢
  omega
theorem LI.slice (h : LI Ec ks et w wo B T E tv dp ns lv xs k) : ∃ p c, lv = .slice p xs.length c := by
  obtain ⟨vals, h1, _⟩ := h.own
  rcases h1.2 with ⟨rfl, e⟩ | ⟨g, cap, cur, rfl, _⟩
  · exact ⟨none, 0, by rw [e]⟩
  · exact ⟨_, _, rfl⟩
/-- One more is laid at its end. -/
theorem LI.push (hE : Stays Ec) (hB : B < w.heap.size) (ht : Toks (mask B w) T tv) (htab : Tab (mask B w)) (h : LI Ec ks et w wo B T E tv dp ns lv xs k) {vals us : List Value} {w5 : World} {v5 : Value} {x : α} {n1 : Nat}
    (hrows : Rows Ec ks (hide (inList w.heap.size lv) wo) xs vals) (hx : Ec (since n1 wo) x us) (hus : us.length = ks) (hn1 : w.heap.size ≤ n1) (hn2 : ∀ g, lv.ownBlock = some g → w.heap.size ≤ g ∧ g < n1)
    (hown : w5.ownsRow w.heap.size et ks v5 (xs.length + 1) (vals ++ us)) (hg : wo.grownBy w5 lv.ownBlock) (hv : v5.ownBlock = lv.ownBlock ∨ v5.ownBlock = some wo.heap.size) :
    LI Ec ks et w w5 B T E tv dp ns v5 (xs ++ [x]) k := by
  have hblk : w5.heap[B]? = wo.heap[B]? := hg.block B h.rdr.lt (fun e => by have := (hn2 B e.symm).1; omega)
  have hne : ∀ b, b < wo.heap.size → inList w.heap.size lv b = false → inList w.heap.size v5 b = false ∧ w5.heap[b]? = wo.heap[b]? := fun b hb hp => by
    simp [inList] at hp
    refine ⟨?_, hg.block b hb (fun e => hp.2 e.symm)⟩
    simp only [inList, Bool.or_eq_false_iff, decide_eq_false_iff_not, Nat.not_lt, beq_eq_false_iff_ne, ne_eq]
    refine ⟨hp.1, fun e => ?_⟩
    rcases hv with hv | hv
    · rw [hv] at e; exact hp.2 e
    · rw [hv] at e; simp at e; omega
  have hk : Keeps (hide (inList w.heap.size lv) wo) (hide (inList w.heap.size v5) w5) := keeps_hide hg.size hne
  have hk2 : Keeps (since n1 wo) (hide (inList w.heap.size lv) wo) := keeps_hide (Nat.le_refl _) fun b hb hp => ⟨by
    simp only [inList, Bool.or_eq_false_iff, decide_eq_false_iff_not, Nat.not_lt, beq_eq_false_iff_ne, ne_eq]
    simp at hp
    exact ⟨by omega, fun e => by have := (hn2 b e).2; omega⟩, rfl⟩
  have has : Aside1 B w w5 := ⟨hg.os.trans h.aside.os, hg.tape.trans h.aside.tape, hg.output.trans h.aside.output, Nat.le_trans h.aside.size hg.size, fun i hi hne =>
    (hg.block i (Nat.lt_of_lt_of_le hi h.aside.size) (fun e => by have := (hn2 i e.symm).1; omega)).trans (h.aside.block i hi hne)⟩
  exact ⟨⟨by rw [hblk]; exact h.rdr.blk, ht.stays has.keeps, htab.aside has⟩, has, vals ++ us, by simpa using hown, Rows.append (Rows.stays hE hk hrows) (.one (hE _ _ _ _ (hk2.trans hk) hx) hus)⟩
/-- The first one. -/
theorem LI.first (hE : Stays Ec) {w1 : World} (hr : Rdr w1 B T E tv k dp ns) (ha : Aside1 B w w1) {x : α} {us : List Value} (hx : Ec (since w.heap.size w1) x us) (hus : us.length = ks) (hks : 0 < ks) :
    LI Ec ks et w (w1.alloc (.cells us.toArray et)) B T E tv dp ns (.slice (some ⟨w1.heap.size, 0, none⟩) 1 1) [x] k := by
  have hb : Below w1.heap.size w1 (w1.alloc (.cells us.toArray et)) := (Below.refl _ _).alloc (Nat.le_refl _) _
  refine ⟨hr.below hb, ha.trans (aside_below hb), us, ?_, .one (hE _ _ _ _ (keeps_hide hb.size fun b hb1 hp => ⟨?_, hb.block b hb1⟩) hx) hus⟩
  · have := World.ownsRow_lit (base := w.heap.size) (e := et) (size := ks) w1 us.toArray 1 ha.size (by unfold maxLen; omega) (by simp [hus])
    simpa using this
  · simp [inList, Value.ownBlock] at hp ⊢
    omega
end
/-- A policy as one value. -/
def PolIs (w : World) (x : Pol) (v : Value) : Prop := ∃ vr, v = .agg #[.string x.1, vr] ∧ Strs w x.2 vr
theorem PolIs.stays {w w' : World} (hk : Keeps w w') {x : Pol} {v : Value} (h : PolIs w x v) : PolIs w' x v := by
  obtain ⟨vr, e, h1⟩ := h
  exact ⟨vr, e, h1.stays hk⟩
theorem Tryz.info_policyP : (Tryz.prog.info? 77).map (fun i => (i.zero, i.size, i.bytes)) = some (some (.agg #[.string ⟨#[]⟩, .slice none 0 0]), 2, 40) := by kernel_rfl
theorem Tryz.info_stringP : (Tryz.prog.info? 9).map (fun i => (i.zero, i.size, i.bytes)) = some (some (.string ⟨#[]⟩), 1, 16) := by kernel_rfl
theorem Tryz.info_exprP : (Tryz.prog.info? 26).map (fun i => (i.zero, i.size, i.bytes)) = some (some (.agg #[.int .i64 0, .int .i64 0, .int .i64 0, .int .i64 0, .string ⟨#[]⟩, .slice none 0 0, .slice none 0 0]), 7, 96) := by kernel_rfl
end Go.Proofs.YtmepcmnpmhhiiaaGreatDoor
