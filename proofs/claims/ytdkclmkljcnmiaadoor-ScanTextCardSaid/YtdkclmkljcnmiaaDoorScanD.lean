/-
  What scan.Scan computes; the memory of its loop.
-/
import Derived.Test.YtdkclmkljcnmiaaDoorScanC
import Derived.Test.YtdkclmkljcnmiaaDoorApp
import Derived.Test.YtdkclmkljcnmiaaDoorLaw
import Derived.Test.YtdkclmkljcnmiaaDoorCalm
import Derived.OneCell
import Derived.Maps.AppendAt
namespace Go.Proofs.YtdkclmkljcnmiaaDoor
open Go.RowKit
set_option linter.unusedVariables false
set_option linter.unusedSimpArgs false

/-- A token: its kind, its place, its text. -/
abbrev Tok := Int × Int × Txt
def tokE : Enc Tok := Both num (Both num txt)
theorem tok_stays : Stays tokE := Both.stays (One.stays _) (Both.stays (One.stays _) (One.stays _))
abbrev Toks (w : World) (l : List Tok) (v : Value) : Prop := SliceOf tokE 3 w l v
theorem Toks.stays {w w' : World} (hk : Keeps w w') {l : List Tok} {v : Value} (h : Toks w l v) : Toks w' l v := SliceOf.stays tok_stays hk h
def okTok : Tok → Prop := okBoth okNum (okBoth okNum okTxt)
def szTok : Tok → Nat := szBoth szOne (szBoth szOne szTxt)
theorem rdTok : Rd Tryd.prog 31 tokE okTok szTok :=
  Rd.struct (tot := 3) Tryd.underlying31 (by kernel_rfl) (Rdf.cons (k := 1) (o' := 1) rfl rfl (by kernel_rfl) rfl (Rd.num Tryd.underlying3) (Rdf.cons (k := 1) (o' := 2) rfl rfl (by kernel_rfl) rfl (Rd.num Tryd.underlying3) (Rdf.last (k := 1) rfl rfl (by kernel_rfl) (Rd.txt Tryd.underlying9))))
theorem rdToks : Rd Tryd.prog 22 (Sl tokE 3) (okList okTok) (szList szTok) := Rd.slice Tryd.underlying22 (by decide) (by kernel_rfl) rdTok
theorem Toks.cells {w : World} {l : List Tok} {v : Value} (h : Toks w l v) :
    ∃ b o c p, v = .slice p l.length c ∧ l.length ≤ c ∧ c ≤ 9223372036854775807 ∧ (0 < l.length → p = some ⟨b, o, none⟩) ∧
      ∀ (i : Nat) (h : i < l.length), w.cell? ⟨b, o + i * 3, none⟩ = some (.int .i64 l[i].1) ∧ w.cell? ⟨b, o + i * 3 + 1, none⟩ = some (.int .i64 l[i].2.1) ∧ w.cell? ⟨b, o + i * 3 + 2, none⟩ = some (.string l[i].2.2) := by
  obtain ⟨p, c, e, h1, h2, h3⟩ := h
  unfold maxLen at h2
  rcases h3 with rfl | ⟨b, o, hp, h3⟩
  · exact ⟨0, 0, c, p, e, h1, by omega, fun h => absurd h (by simp), fun i h => absurd h (by simp)⟩
  · refine ⟨b, o, c, p, e, h1, by omega, fun _ => hp, fun i hi => ?_⟩
    obtain ⟨vs, ⟨us, us', e1, e2, ⟨us2, us3, e4, e5, e6⟩⟩, g2, g3⟩ := h3 i hi
    have e2' : us = [.int .i64 l[i].1] := e2
    have e5' : us2 = [.int .i64 l[i].2.1] := e5
    have e6' : us3 = [.string l[i].2.2] := e6
    subst e2' e5' e6' e4 e1
    exact ⟨by simpa using g3 0 _ rfl, by simpa using g3 1 _ rfl, by simpa using g3 2 _ rfl⟩
theorem Tryd.info_token : (Tryd.prog.info? 31).map (fun i => (i.zero, i.size, i.bytes)) = some (some (.agg #[.int .i64 0, .int .i64 0, .string ByteArray.empty]), 3, 32) := by kernel_rfl
def tokCells (x : Tok) : List Value := [.int .i64 x.1, .int .i64 x.2.1, .string x.2.2]
theorem tok_rows (w : World) : ∀ x : List Tok, Rows tokE 3 w x (x.flatMap tokCells)
  | [] => rfl
  | y :: x => ⟨tokCells y, x.flatMap tokCells, rfl, ⟨[.int .i64 y.1], _, rfl, rfl, ⟨[.int .i64 y.2.1], [.string y.2.2], rfl, rfl, rfl⟩⟩, rfl, tok_rows w x⟩

/-- What stands at a place: bytes to pass over, a token, or something wrong. -/
inductive Step where
  | skip (n : Nat)
  | tok (k : Int) (t : Txt)
  | bad (c : Int)
def signOf (s : Txt) (a : Nat) : Step := match signsL.find? (signAt s a) with
  | some x => .tok 4 x
  | none => .bad 1
def wordOf (t : Txt) : Step := if isWord t then .tok 3 t else if isName t then .tok 1 t else .bad 2
def numOf (c : Int) (t : Txt) : Step := if 9 < t.size then .bad 3 else if 1 < t.size ∧ c = 48 then .bad 3 else .tok 2 t
def stepOf (s : Txt) (a : Nat) (c : Int) : Step :=
  if c == 32 then .skip 1 else if c == 9 then .skip 1 else if c == 10 then .skip 1
  else if c == 35 then .skip (runEnd noteB s a - a)
  else if letterB c then wordOf (s.extract a (runEnd wordB s a))
  else if digitB c then numOf c (s.extract a (runEnd digitB s a))
  else signOf s a
/-- A text's tokens from a place on, behind those that are there; what is wrong first, and where. -/
def scanGo (s : Txt) : Nat → Nat → List Tok → List Tok × Int × Int
  | 0, _, l => (l, 0, 0)
  | f + 1, a, l =>
    if h : a < s.size then
      match stepOf s a (s[a].toNat) with
      | .skip n => scanGo s f (a + n) l
      | .bad c => ([], c, a)
      | .tok k t => if l.length = 600 then ([], 2, a) else scanGo s f (a + t.size) (l ++ [(k, (a : Int), t)])
    else (l, 0, 0)
def scanOf (s : Txt) : List Tok × Int × Int := if 4000 < s.size then ([], 2, 0) else scanGo s s.size 0 []

theorem scanGo_end {s : Txt} {f a : Nat} {l : List Tok} (h : ¬ a < s.size) : scanGo s f a l = (l, 0, 0) := by
  cases f with
  | zero => rfl
  | succ f => unfold scanGo; rw [dif_neg h]
theorem scanGo_skip {s : Txt} {f a n : Nat} {l : List Tok} (h : a < s.size) (e : stepOf s a (s[a].toNat) = .skip n) : scanGo s (f + 1) a l = scanGo s f (a + n) l := by
  rw [scanGo, dif_pos h, e]
theorem scanGo_bad {s : Txt} {f a : Nat} {c : Int} {l : List Tok} (h : a < s.size) (e : stepOf s a (s[a].toNat) = .bad c) : scanGo s (f + 1) a l = ([], c, (a : Int)) := by
  rw [scanGo, dif_pos h, e]
theorem scanGo_many {s : Txt} {f a : Nat} {k : Int} {t : Txt} {l : List Tok} (h : a < s.size) (e : stepOf s a (s[a].toNat) = .tok k t) (hl : l.length = 600) : scanGo s (f + 1) a l = ([], 2, (a : Int)) := by
  rw [scanGo, dif_pos h, e]
  simp only
  rw [if_pos hl]
theorem scanGo_tok {s : Txt} {f a : Nat} {k : Int} {t : Txt} {l : List Tok} (h : a < s.size) (e : stepOf s a (s[a].toNat) = .tok k t) (hl : ¬ l.length = 600) : scanGo s (f + 1) a l = scanGo s f (a + t.size) (l ++ [(k, (a : Int), t)]) := by
  rw [scanGo, dif_pos h, e]
  simp only
  rw [if_neg hl]

/-- The box of the place. -/
def AtBox (w : World) (g : Nat) (k : Int) : Prop := w.heap[g]? = some (.cells #[.int .i64 k] 3 (0, 0))
/-- The box of the token that is being read. -/
def TokBox (w : World) (tb : Nat) (kd a : Int) (t : Txt) : Prop := w.heap[tb]? = some (.cells #[.int .i64 kd, .int .i64 a, .string t] 31 (0, 0))
theorem AtBox.cell {w : World} {g : Nat} {k : Int} (h : AtBox w g k) : w.cell? ⟨g, 0, none⟩ = some (.int .i64 k) := cell_of_one h
theorem AtBox.free {w : World} {g : Nat} {k : Int} (h : AtBox w g k) : w.frozen? ⟨g, 0, none⟩ = false := free_of_one h
theorem AtBox.lt {w : World} {g : Nat} {k : Int} (h : AtBox w g k) : g < w.heap.size := lt_of_block h
theorem AtBox.set {w : World} {g : Nat} {k : Int} (h : AtBox w g k) (k' : Int) : AtBox (w.setCell ⟨g, 0, none⟩ (.int .i64 k')) g k' := one_setCell h
theorem AtBox.other {w : World} {g : Nat} {k : Int} (h : AtBox w g k) {a : Addr} (ha : g ≠ a.block) (u : Value) : AtBox (w.setCell a u) g k := by
  unfold AtBox; rw [Below.heap_setCell _ _ _ _ ha]; exact h
theorem AtBox.below {w w' : World} {g : Nat} {k : Int} (h : AtBox w g k) (hb : Below w.heap.size w w') : AtBox w' g k := by
  unfold AtBox; rw [hb.block _ h.lt]; exact h
theorem AtBox.new (w : World) (k : Int) : AtBox (w.alloc (.cells #[.int .i64 k] 3)) w.heap.size k := heap_alloc_new _ _
theorem TokBox.lt {w : World} {tb : Nat} {kd a : Int} {t : Txt} (h : TokBox w tb kd a t) : tb < w.heap.size := lt_of_block h
theorem TokBox.cell0 {w : World} {tb : Nat} {kd a : Int} {t : Txt} (h : TokBox w tb kd a t) : w.cell? ⟨tb, 0, none⟩ = some (.int .i64 kd) := by unfold TokBox at h; simp [World.cell?, h]
theorem TokBox.cell1 {w : World} {tb : Nat} {kd a : Int} {t : Txt} (h : TokBox w tb kd a t) : w.cell? ⟨tb, 1, none⟩ = some (.int .i64 a) := by unfold TokBox at h; simp [World.cell?, h]
theorem TokBox.cell2 {w : World} {tb : Nat} {kd a : Int} {t : Txt} (h : TokBox w tb kd a t) : w.cell? ⟨tb, 2, none⟩ = some (.string t) := by unfold TokBox at h; simp [World.cell?, h]
theorem TokBox.free {w : World} {tb : Nat} {kd a : Int} {t : Txt} (h : TokBox w tb kd a t) (j : Nat) : w.frozen? ⟨tb, j, none⟩ = false := by unfold TokBox at h; simp [World.frozen?, h]
theorem TokBox.below {w w' : World} {tb : Nat} {kd a : Int} {t : Txt} (h : TokBox w tb kd a t) (hb : Below w.heap.size w w') : TokBox w' tb kd a t := by
  unfold TokBox; rw [hb.block _ h.lt]; exact h
theorem TokBox.other {w : World} {tb : Nat} {kd a : Int} {t : Txt} (h : TokBox w tb kd a t) {p : Addr} (ha : tb ≠ p.block) (u : Value) : TokBox (w.setCell p u) tb kd a t := by
  unfold TokBox; rw [Below.heap_setCell _ _ _ _ ha]; exact h
theorem tok_setCell {w : World} {tb : Nat} {kd a : Int} {t : Txt} (h : TokBox w tb kd a t) (j : Nat) (u : Value) : (w.setCell ⟨tb, j, none⟩ u).heap[tb]? = some (.cells (#[.int .i64 kd, .int .i64 a, .string t].setIfInBounds j u) 31 (0, 0)) := by
  have hlt := h.lt
  have h' : w.heap[tb] = .cells #[.int .i64 kd, .int .i64 a, .string t] 31 (0, 0) := by unfold TokBox at h; simpa [Array.getElem?_eq_getElem hlt] using h
  show (w.heap.modify tb _)[tb]? = _
  rw [Array.getElem?_eq_getElem (by simpa using hlt), Array.getElem_modify_self, h']
  rfl
theorem TokBox.set0 {w : World} {tb : Nat} {kd a : Int} {t : Txt} (h : TokBox w tb kd a t) (k' : Int) : TokBox (w.setCell ⟨tb, 0, none⟩ (.int .i64 k')) tb k' a t := tok_setCell h 0 _
theorem TokBox.set2 {w : World} {tb : Nat} {kd a : Int} {t : Txt} (h : TokBox w tb kd a t) (t' : Txt) : TokBox (w.setCell ⟨tb, 2, none⟩ (.string t')) tb kd a t' := tok_setCell h 2 _
theorem TokBox.new (w : World) (kd a : Int) (t : Txt) : TokBox (w.alloc (.cells #[.int .i64 kd, .int .i64 a, .string t] 31)) w.heap.size kd a t := heap_alloc_new _ _

/-- The loop's memory: below `N` as it was; the place; the tokens so far. -/
structure Scn (N : Nat) (W w : World) (g : Nat) (k : Int) (v : Value) (l : List Tok) : Prop where
  below : Below N W w
  box : AtBox w g k
  ge : N ≤ g
  row : w.ownsRow N 31 3 v l.length (l.flatMap tokCells)
  ne : v.ownBlock ≠ some g
theorem Scn.sub {N : Nat} {W w w' : World} {g : Nat} {k : Int} {v : Value} {l : List Tok} (h : Scn N W w g k v l) (hN : N ≤ w.heap.size) (hb : Below w.heap.size w w') : Scn N W w' g k v l :=
  ⟨h.below.trans (hb.mono hN), h.box.below hb, h.ge, own_below h.row hb, h.ne⟩
theorem Scn.setAt {N : Nat} {W w : World} {g : Nat} {k : Int} {v : Value} {l : List Tok} (h : Scn N W w g k v l) (k' : Int) : Scn N W (w.setCell ⟨g, 0, none⟩ (.int .i64 k')) g k' v l :=
  ⟨h.below.setCell h.ge _, h.box.set k', h.ge, ownsRow_setCell_other h.row h.ne _, h.ne⟩
theorem Scn.other {N : Nat} {W w : World} {g : Nat} {k : Int} {v : Value} {l : List Tok} (h : Scn N W w g k v l) {a : Addr} (h1 : N ≤ a.block) (h2 : g ≠ a.block) (h3 : v.ownBlock ≠ some a.block) (u : Value) : Scn N W (w.setCell a u) g k v l :=
  ⟨h.below.setCell h1 _, h.box.other h2 _, h.ge, ownsRow_setCell_other h.row h3 _, h.ne⟩
theorem Scn.newAt {N : Nat} {W w : World} {g : Nat} {k : Int} {v : Value} {l : List Tok} (h : Scn N W w g k v l) (hN : N ≤ w.heap.size) : Scn N W (w.alloc (.cells #[.int .i64 k] 3)) w.heap.size k v l :=
  ⟨h.below.alloc hN _, AtBox.new _ _, hN, h.row.alloc _, fun e => by have := (h.row.lt _ e).2; omega⟩
theorem Scn.append {N : Nat} {W w : World} {g : Nat} {k : Int} {v : Value} {l : List Tok} (h : Scn N W w g k v l) (hN : N ≤ w.heap.size) (x : Tok) (o : Obj) {v' : Value} {w' : World}
    (hown : w'.ownsRow N 31 3 v' (l.length + 1) (l.flatMap tokCells ++ tokCells x)) (hgrow : (w.alloc o).grownBy w' v.ownBlock) (hob : v'.ownBlock = v.ownBlock ∨ v'.ownBlock = some (w.heap.size + 1)) : Scn N W w' g k v' (l ++ [x]) := by
  have hlt := h.box.lt
  refine ⟨(h.below.alloc hN o).grown hgrow (by simp; omega) (fun q hq => (h.row.lt q hq).1), ?_, h.ge, ?_, ?_⟩
  · unfold AtBox
    rw [hgrow.block g (by simp; omega) (fun e => h.ne e.symm), Below.heap_alloc _ _ _ hlt]
    exact h.box
  · rw [List.length_append, List.flatMap_append]
    simpa using hown
  · rcases hob with e | e
    · rw [e]; exact h.ne
    · rw [e]
      intro e2
      have := Option.some.inj e2
      omega
theorem TokBox.append {w : World} {tb : Nat} {kd a : Int} {t : Txt} (h : TokBox w tb kd a t) {v : Value} (hne : v.ownBlock ≠ some tb) (o : Obj) {w' : World} (hgrow : (w.alloc o).grownBy w' v.ownBlock) : TokBox w' tb kd a t := by
  have hlt := h.lt
  unfold TokBox
  rw [hgrow.block tb (by simp; omega) (fun e => hne e.symm), Below.heap_alloc _ _ _ hlt]
  exact h
end Go.Proofs.YtdkclmkljcnmiaaDoor
