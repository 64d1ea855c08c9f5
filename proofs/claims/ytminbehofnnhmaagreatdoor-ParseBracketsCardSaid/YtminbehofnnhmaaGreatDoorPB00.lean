/- Texts of the proof that ParseBrackets holds, part 0; no conditions. -/
import Derived.WalkKit
import Derived.Lib.Hide
import Derived.Lib.SlicesS
import Derived.Test.YtminbehofnnhmaaGreatDoorRows
import Derived.ProofKit
import Derived.OpenShut
import Derived.Below
import Derived.ChangeSame
import Derived.Test.YtminbehofnnhmaaGreatDoorTie
import Derived.Test.YtminbehofnnhmaaGreatDoorCards
import Derived.HandedShaped
import Derived.Shelf.Vars
import Derived.Lay
import Derived.LaidOnce
import Derived.SevenTiedAt
import Derived.SizedLaws
import Derived.Lib.LaidTab
import Derived.Lib.Space
import Derived.Stop.LaidErr
import Derived.MakeChecks
namespace Go.Proofs.YtminbehofnnhmaaGreatDoor
set_option linter.unusedVariables false
set_option linter.unusedSimpArgs false
set_option maxHeartbeats 8000000
set_option maxRecDepth 100000
section
open Go.RowKit
theorem Hd {p : Prop} (h : p) : Hid p := Lib.hid h
instance instLawfulText : LawfulBEq ByteArray where
 eq_of_beq {a b} h := by
  cases a; cases b
  have h' : (_ == _) = true := h
  congr 1
  exact eq_of_beq h'
 rfl {a} := by
  cases a with
  | mk d => show (d == d) = true; exact beq_self_eq_true d
def Keeps (w w' : World) : Prop := w.heap.size ≤ w'.heap.size ∧ ∀ b o v, w.cell? ⟨b, o, none⟩ = some v → w'.cell? ⟨b, o, none⟩ = some v
theorem cell_lt {w : World} {b o : Nat} {v : Value} (h : w.cell? ⟨b, o, none⟩ = some v) : b < w.heap.size := by
 apply Decidable.byContradiction
 intro hb
 have : w.heap[b]? = none := by simp; omega
 simp [World.cell?, this] at h
theorem Keeps.trans {a b c : World} (h : Keeps a b) (k : Keeps b c) : Keeps a c :=
 ⟨Nat.le_trans h.1 k.1, fun i o v hi => k.2 i o v (h.2 i o v hi)⟩
theorem keeps_of_below {w w' : World} (h : Below w.heap.size w w') : Keeps w w' :=
 ⟨h.size, fun b o v hv => (h.cell (p := ⟨b, o, none⟩) (cell_lt hv)).trans hv⟩
abbrev Enc (α : Type) := World → α → List Value → Prop
def Stays {α : Type} (E : Enc α) : Prop := ∀ w w' x vs, Keeps w w' → E w x vs → E w' x vs
def SliceOf {α : Type} (E : Enc α) (k : Nat) (w : World) (l : List α) (v : Value) : Prop :=
 ∃ p c, v = .slice p l.length c ∧ l.length ≤ c ∧ c ≤ maxLen ∧
   (l = [] ∨ ∃ b o, p = some ⟨b, o, none⟩ ∧ ∀ (i : Nat) (h : i < l.length), ∃ vs, E w l[i] vs ∧ vs.length = k ∧ ∀ j x, vs[j]? = some x → w.cell? ⟨b, o + i * k + j, none⟩ = some x)
theorem SliceOf.stays {α : Type} {E : Enc α} {k : Nat} (hE : Stays E) {w w' : World} (hk : Keeps w w') {l : List α} {v : Value} (h : SliceOf E k w l v) : SliceOf E k w' l v := by
 obtain ⟨p, c, e, h1, h2, h3⟩ := h
 refine ⟨p, c, e, h1, h2, ?_⟩
 rcases h3 with h3 | ⟨b, o, hp, h3⟩
 · exact Or.inl h3
 · refine Or.inr ⟨b, o, hp, fun i hi => ?_⟩
   obtain ⟨vs, g1, g2, g3⟩ := h3 i hi
   refine ⟨vs, hE _ _ _ _ hk g1, g2, fun j x hx => ?_⟩
   exact hk.2 b _ _ (g3 j x hx)
def One {α : Type} (f : α → Value) : Enc α := fun _ x vs => vs = [f x]
theorem One.stays {α : Type} (f : α → Value) : Stays (One f) := fun _ _ _ _ _ h => h
def Sl {α : Type} (E : Enc α) (k : Nat) : Enc (List α) := fun w l vs => ∃ v, vs = [v] ∧ SliceOf E k w l v
theorem Sl.stays {α : Type} {E : Enc α} (hE : Stays E) (k : Nat) : Stays (Sl E k) := fun _ _ _ _ hk ⟨v, e, h⟩ => ⟨v, e, h.stays hE hk⟩
def Both {α β : Type} (E : Enc α) (F : Enc β) : Enc (α × β) := fun w x vs => ∃ us us', vs = us ++ us' ∧ E w x.1 us ∧ F w x.2 us'
theorem Both.stays {α β : Type} {E : Enc α} {F : Enc β} (hE : Stays E) (hF : Stays F) : Stays (Both E F) :=
 fun _ _ _ _ hk ⟨us, us', e, h1, h2⟩ => ⟨us, us', e, hE _ _ _ _ hk h1, hF _ _ _ _ hk h2⟩
abbrev Txt := ByteArray
def txt : Enc Txt := One Value.string
def num : Enc Int := One (Value.int .i64)
abbrev Strs (w : World) (l : List Txt) (v : Value) : Prop := SliceOf txt 1 w l v
theorem Strs.stays {w w' : World} (hk : Keeps w w') {l : List Txt} {v : Value} (h : Strs w l v) : Strs w' l v := SliceOf.stays (One.stays _) hk h
theorem Strs.cells {w : World} {l : List Txt} {v : Value} (h : Strs w l v) :
 ∃ b o c p, v = .slice p l.length c ∧ l.length ≤ c ∧ c ≤ 9223372036854775807 ∧ (0 < l.length → p = some ⟨b, o, none⟩) ∧ ∀ (i : Nat) (h : i < l.length), w.cell? ⟨b, o + i, none⟩ = some (.string l[i]) := by
 obtain ⟨p, c, e, h1, h2, h3⟩ := h
 unfold maxLen at h2
 rcases h3 with rfl | ⟨b, o, hp, h3⟩
 · exact ⟨0, 0, c, p, e, h1, by omega, fun h => absurd h (by simp), fun i h => absurd h (by simp)⟩
 · refine ⟨b, o, c, p, e, h1, by omega, fun _ => hp, fun i hi => ?_⟩
   obtain ⟨vs, g1, g2, g3⟩ := h3 i hi
   have := g3 0 (.string l[i]) (by rw [g1]; rfl)
   simpa using this
theorem alloc_cell_new (w : World) (A : Array Value) (t : TypeId) (n j : Nat) (hn : w.heap.size = n) : (w.alloc (.cells A t)).cell? ⟨n, j, none⟩ = A[j]? := by
 subst hn
 exact World.cell?_alloc_mark _ _ _ _ _
theorem alloc_cell_old (w : World) (o : Obj) (b j : Nat) (h : b < w.heap.size) : (w.alloc o).cell? ⟨b, j, none⟩ = w.cell? ⟨b, j, none⟩ := World.cell?_alloc_lt _ _ _ h
theorem boxes1 {w W : World} {A : Array Value} {ta : TypeId} (h : w.alloc (.cells A ta) = W) :
 W.heap.size = w.heap.size + 1 ∧ Below w.heap.size w W ∧ (∀ j, W.cell? ⟨w.heap.size, j, none⟩ = A[j]?) := by
 subst h
 exact ⟨by simp, (Below.refl _ _).alloc (Nat.le_refl _) _, fun j => alloc_cell_new _ _ _ _ _ rfl⟩
theorem boxes2 {w W : World} {A B : Array Value} {ta tb : TypeId} (h : (w.alloc (.cells A ta)).alloc (.cells B tb) = W) :
 W.heap.size = w.heap.size + 2 ∧ Below w.heap.size w W ∧ (∀ j, W.cell? ⟨w.heap.size, j, none⟩ = A[j]?) ∧ (∀ j, W.cell? ⟨w.heap.size + 1, j, none⟩ = B[j]?) := by
 subst h
 exact ⟨by simp, ((Below.refl _ _).alloc (Nat.le_refl _) _).alloc (by simp) _,
  fun j => by rw [alloc_cell_old _ _ _ _ (by simp), alloc_cell_new _ _ _ _ _ rfl], fun j => alloc_cell_new _ _ _ _ _ (by simp)⟩
end
section
open Go.RowKit Go.WideShapes Go.ChangeShapes Go.ChangeAt
theorem Tryz.own : ownKnob Tryz.prog.godebug = none := by kernel_rfl
theorem Tryz.laidOut : laidOutB Tryz.prog = true := by kernel_rfl
section
variable {H : Type} {enc : TypeId × Value → H} {P : Program}
theorem trodAll_stays (hl : laidOutB P = true) {W W' : World} (hb : Below W.heap.size W W') (sp : Nat → Bool) :
 ∀ (ts : List TypeId) (vs : List Value) (ds : List (DataW H)) (ps : List MemPlace), (ts.all fun t => P.readableRec t && decide (t < P.types.size)) = true →
   DataW.TrodAll enc P W 0 (fun _ => true) true ts vs ds ps → (∀ p ∈ ps, sp p.block = true) → (∀ p ∈ ps, p.block < W.heap.size) → DataW.TrodAll enc P W' 0 sp true ts vs ds ps
 | [], [], [], _, _, h, _, _ => h
 | [], [], _ :: _, _, _, h, _, _ => by cases h
 | [], _ :: _, _, _, _, h, _, _ => by cases h
 | _ :: _, [], _, _, _, h, _, _ => by cases h
 | _ :: _, _ :: _, [], _, _, h, _, _ => by cases h
 | t :: ts, v :: vs, d :: ds, ps, hr, h, hs, hlt => by
   obtain ⟨p, q, h1, h2, rfl⟩ := h
   simp only [List.all_cons, Bool.and_eq_true, decide_eq_true_eq] at hr
   exact ⟨p, q, WideElems.Trod_stays hl hr.1.1 hr.1.2 h1 (fun x hx => hb.same (hlt x (List.mem_append_left _ hx))) (fun x hx => hs x (List.mem_append_left _ hx)),
    trodAll_stays hl hb sp ts vs ds q hr.2 h2 (fun x hx => hs x (List.mem_append_right _ hx)) (fun x hx => hlt x (List.mem_append_right _ hx)), rfl⟩
theorem law_post {f : Func} {s : ChangeSpec} {W W' : World} {args : Array Value} {ds gs : List (DataW H)} {before : List MemPlace} {tb : TypeId}
 (hl : laidOutB P = true) (hW : DataW.Whole enc P f.params.toList s.vars false W args.toList ds gs before) (hvars : s.vars = [])
 (hr : (f.params.toList.all fun t => P.readableRec t && decide (t < P.types.size)) = true)
 (hres : f.resultTypes = #[tb]) (htb : P.underlying tb = some .bool)
 (h1 : (s.fn H (ds ++ gs)).results = [.lit (.bool true)]) (h2 : (s.fn H (ds ++ gs)).args = ds) (h3 : (s.fn H (ds ++ gs)).vars = [])
 (hb : Below W.heap.size W W') : s.post enc P f false true false false W args (.bool true) W' := by
 have hW0 := hW
 obtain ⟨p, q, hA, hV, rfl, hfz, hnd⟩ := hW
 rw [hvars] at hV
 cases gs with
 | cons g gs => cases hV
 | nil =>
   obtain rfl : q = [] := hV
   have hlt : ∀ x ∈ p ++ [], x.block < W.heap.size := fun x hx => hW0.lt x hx
   have hold : ∀ x ∈ p ++ [], (fun b => decide (b < W.heap.size)) x.block = true := fun x hx => by simpa using hlt x hx
   have hT : ∀ (b : Nat) (sp : Nat → Bool) (hd : Bool), DataW.TrodAll enc P W' b sp hd f.resultTypes.toList (Value.resultList f.resultTypes.size (.bool true)) (s.fn H (ds ++ [])).results [] := fun b sp hd => by
    rw [h1, hres]
    exact trodAll_mk1 (shut_bool htb true)
   refine ⟨ds, [], p ++ [], [], p, [], hW0, hT _ _ _, ?_, ?_, World.keptBut_mono (fun x hx => ⟨hx, Or.inr (by simpa using hx)⟩) (hb.frame (· ∈ p ++ [])), fun h => by cases h⟩
   · rw [h2]
     exact trodAll_stays hl hb _ _ _ _ _ hr hA (fun x hx => hold x (by simpa using hx)) (fun x hx => hlt x (by simpa using hx))
   · rw [h3, hvars]
     rfl
end
def Rd {α : Type} (P : Program) (t : TypeId) (E : Enc α) (G : α → Prop) (m : α → Nat) : Prop :=
 ∀ (H : Type) (enc : TypeId × Value → H) (w : World) (fuel : Nat) (cs : List Value) (x : DataW H × List MemPlace), DataW.trod enc P w 0 (fun _ => true) true fuel t cs = some x → ∃ a : α, E w a cs ∧ G a ∧ m a ≤ Rows.uptoBulk x.1
section
variable {P : Program}
def szTxt (s : Txt) : Nat := s.size + 1
def szOne {α : Type} (_ : α) : Nat := 1
def szList {α : Type} (m : α → Nat) (l : List α) : Nat := (l.map m).sum + 1
def szBoth {α β : Type} (m : α → Nat) (n : β → Nat) (x : α × β) : Nat := m x.1 + n x.2
def okTxt (s : Txt) : Prop := s.size ≤ 9223372036854775807
def okNum (n : Int) : Prop := -9223372036854775808 ≤ n ∧ n ≤ 9223372036854775807
def okList {α : Type} (G : α → Prop) (l : List α) : Prop := ∀ x ∈ l, G x
def okBoth {α β : Type} (G : α → Prop) (F : β → Prop) (x : α × β) : Prop := G x.1 ∧ F x.2
theorem Rd.txt {t : TypeId} (ht : P.underlying t = some .string) : Rd P t txt okTxt szTxt := by
 intro H enc w fuel cs x h
 obtain ⟨s, rfl, rfl, hs⟩ := DataW.trod_string ht h
 exact ⟨s, rfl, by unfold okTxt; unfold maxLen at hs; omega, by simp only [Rows.uptoBulk, Array.length_toList]; exact Nat.le_refl _⟩
theorem Rd.num {t : TypeId} (ht : P.underlying t = some (.int .i64)) : Rd P t num okNum szOne := by
 intro H enc w fuel cs x h
 obtain ⟨n, rfl, rfl, hs⟩ := DataW.trod_int ht h
 exact ⟨n, rfl, by have := hs; simp [Lit.wf, IntKind.min, IntKind.max, IntKind.signed, IntKind.bits] at this; unfold okNum; omega, by simp [szOne, Rows.uptoBulk]⟩
theorem choose_list {α β : Type} {m : α → Nat} {n : β → Nat} : ∀ (es : List β) (Q : Nat → α → Prop), (∀ i (hi : i < es.length), ∃ a, Q i a ∧ m a ≤ n es[i]) →
 ∃ l : List α, l.length = es.length ∧ (∀ i (hi : i < l.length), Q i l[i]) ∧ (l.map m).sum ≤ (es.map n).sum
 | [], _, _ => ⟨[], rfl, fun i hi => absurd hi (by simp), by simp⟩
 | e :: es, Q, h => by
   obtain ⟨l, h1, h2, h3⟩ := choose_list es (fun i => Q (i + 1)) (fun i hi => by
    have := h (i + 1) (by simpa using hi)
    simpa using this)
   obtain ⟨a, g1, g2⟩ := h 0 (by simp)
   refine ⟨a :: l, by simp [h1], fun i hi => ?_, by simp at g2 ⊢; omega⟩
   cases i with
   | zero => exact g1
   | succ i => exact h2 i (by simpa using hi)
theorem bulkAll_sum {H : Type} (l : List (DataW H)) : Rows.uptoBulkAll l = (l.map Rows.uptoBulk).sum := by
 induction l with
 | nil => simp [Rows.uptoBulkAll]
 | cons x l ih => simp [Rows.uptoBulkAll, ih]
theorem Rd.slice {α : Type} {t e : TypeId} {k : Nat} {E : Enc α} {G : α → Prop} {m : α → Nat} (ht : P.underlying t = some (.slice e)) (hk : 0 < k) (hc : P.cellsOf e = k) (hE : Rd P e E G m) :
 Rd P t (Sl E k) (okList G) (szList m) := by
 intro H enc w fuel cs x h
 rcases DataW.trod_slice ht h with ⟨rfl, rfl⟩ | ⟨a, len, cap, elems, rest, n, rfl, rfl, rfl, hb, hl, hm, hlen, hel, hsp, hns⟩
 · exact ⟨[], ⟨_, rfl, none, 0, rfl, by simp, by unfold maxLen; omega, Or.inl rfl⟩, fun x hx => by simp at hx, by simp [szList, Rows.uptoBulk]⟩
 · rw [hc] at hel
   have each : ∀ i (hi : i < elems.length), ∃ a', (∃ vs, E w a' vs ∧ vs.length = k ∧ (∀ j, j < k → w.cell? ((a.add (i * k)).add j) = vs[j]?) ∧ G a') ∧ m a' ≤ Rows.uptoBulk elems[i].1 := by
    intro i hi
    have h1 := hel i (by omega)
    rw [List.getElem?_eq_getElem hi, Option.bind_eq_some_iff] at h1
    obtain ⟨vs, g1, g2⟩ := h1
    obtain ⟨_, g3, g4⟩ := World.cells?_some g1
    obtain ⟨a', e1, e2, e3⟩ := hE H enc w n vs _ g2
    exact ⟨a', ⟨vs, e1, g3, g4, e2⟩, e3⟩
   obtain ⟨l, l1, l2, l3⟩ := choose_list (n := fun y : DataW H × List MemPlace => Rows.uptoBulk y.1) elems _ each
   refine ⟨l, ⟨_, rfl, some a, cap, by rw [l1, hlen], by omega, hm, ?_⟩, ?_, ?_⟩
   · by_cases h0 : l = []
     · exact Or.inl h0
     · right
       have hpos : 0 < l.length := List.length_pos_iff.2 h0
       obtain ⟨b, o, spot⟩ := a
       obtain ⟨vs, e1, e2, e3, _⟩ := l2 0 hpos
       have hc0 := e3 0 hk
       have hspot : spot = none := by
        have : w.cell? ⟨b, o, spot⟩ = some (vs[0]'(by omega)) := by
         rw [← List.getElem?_eq_getElem (by omega), ← hc0]
         simp [Addr.add]
        simpa using World.cell?_spot this
       subst hspot
       refine ⟨b, o, rfl, fun i hi => ?_⟩
       obtain ⟨vs, e1, e2, e3, _⟩ := l2 i hi
       refine ⟨vs, e1, e2, fun j x hx => ?_⟩
       have hj : j < vs.length := (List.getElem?_eq_some_iff.1 hx).1
       have := e3 j (by omega)
       rw [hx, add_plain, add_plain] at this
       exact this
   · intro x hx
     obtain ⟨i, hi, rfl⟩ := List.getElem_of_mem hx
     obtain ⟨_, _, _, _, g⟩ := l2 i hi
     exact g
   · simp only [szList, Rows.uptoBulk, bulkAll_sum, List.map_map]
     have : (elems.map fun y : DataW H × List MemPlace => Rows.uptoBulk y.1) = elems.map (Rows.uptoBulk ∘ fun x => x.1) := rfl
     rw [this] at l3
     omega
def Rdf {α : Type} (P : Program) (fs : List Field) (o : Nat) (tot : Nat) (E : Enc α) (G : α → Prop) (m : α → Nat) : Prop :=
 ∀ (H : Type) (enc : TypeId × Value → H) (w : World) (n : Nat) (cs : List Value) (xs : List (DataW H × List MemPlace)), cs.length = tot → xs.length = fs.length →
   (∀ (i : Nat) (f : Field), fs[i]? = some f → DataW.trod enc P w 0 (fun _ => true) true n f.type ((cs.drop f.offset).take (P.cellsOf f.type)) = xs[i]?) →
   ∃ a : α, E w a (cs.drop o) ∧ G a ∧ m a ≤ (xs.map fun y => Rows.uptoBulk y.1).sum
theorem Rdf.last {α : Type} {f : Field} {o k : Nat} {t : TypeId} {E : Enc α} {G : α → Prop} {m : α → Nat} (ho : f.offset = o) (ht : f.type = t) (hc : P.cellsOf t = k) (hE : Rd P t E G m) : Rdf P [f] o (o + k) E G m := by
 subst ho ht
 intro H enc w n cs xs h1 h2 h3
 match xs, h2, h3 with
 | [y], _, h3 =>
   have g := h3 0 f rfl
   rw [hc, List.take_of_length_le (by simp; omega)] at g
   obtain ⟨a, a1, a2, a3⟩ := hE H enc w n _ _ g
   exact ⟨a, a1, a2, by simpa using a3⟩
theorem Rdf.cons {α β : Type} {f : Field} {fs : List Field} {o o' k tot : Nat} {t : TypeId} {E : Enc α} {G : α → Prop} {m : α → Nat} {F : Enc β} {G' : β → Prop} {m' : β → Nat}
 (ho : f.offset = o) (ht : f.type = t) (hc : P.cellsOf t = k) (ho' : o' = o + k) (hE : Rd P t E G m) (hF : Rdf P fs o' tot F G' m') : Rdf P (f :: fs) o tot (Both E F) (okBoth G G') (szBoth m m') := by
 subst ho ht ho'
 intro H enc w n cs xs h1 h2 h3
 cases xs with
 | nil => simp at h2
 | cons y xs =>
   have g := h3 0 f rfl
   rw [hc] at g
   obtain ⟨a, a1, a2, a3⟩ := hE H enc w n _ _ g
   obtain ⟨b, b1, b2, b3⟩ := hF H enc w n cs xs h1 (by simpa using h2) (fun i f' hf => by
    have := h3 (i + 1) f' (by simpa using hf)
    simpa using this)
   refine ⟨(a, b), ⟨_, _, ?_, a1, b1⟩, ⟨a2, b2⟩, by simp [szBoth] at a3 b3 ⊢; omega⟩
   rw [← List.drop_drop, List.take_append_drop]
theorem Rd.struct {α : Type} {t : TypeId} {fs : Array Field} {tot : Nat} {E : Enc α} {G : α → Prop} {m : α → Nat} (ht : P.underlying t = some (.struct fs)) (hc : P.cellsOf t = tot) (hF : Rdf P fs.toList 0 tot E G m) : Rd P t E G m := by
 intro H enc w fuel cs x h
 obtain ⟨xs, n, rfl, rfl, h1, h2, h3⟩ := DataW.trod_struct ht h
 obtain ⟨a, a1, a2, a3⟩ := hF H enc w n cs xs (by omega) (by simpa using h2) (fun i f hf => h3 i f (by simpa using hf))
 refine ⟨a, by simpa using a1, a2, ?_⟩
 simp only [Rows.uptoBulk, bulkAll_sum, List.map_map]
 have : (xs.map fun y : DataW H × List MemPlace => Rows.uptoBulk y.1) = xs.map (Rows.uptoBulk ∘ fun x => x.1) := rfl
 rw [this] at a3
 omega
theorem Rd.slice_arg {α : Type} {t : TypeId} {k : Nat} {E : Enc α} {G : List α → Prop} {m : List α → Nat} {H : Type} {enc : TypeId × Value → H} {w : World} {v : Value} {d : DataW H} {ps : List MemPlace}
 (hE : Rd P t (Sl E k) G m) (hv : ∃ p n c, v = .slice p n c) (h : DataW.Trod enc P w 0 (fun _ => true) true t v d ps) : ∃ l : List α, SliceOf E k w l v ∧ G l ∧ m l ≤ Rows.uptoBulk d := by
 obtain ⟨fuel, hf⟩ := h
 obtain ⟨a, ⟨u, h1, h2⟩, h3, h4⟩ := hE H enc w fuel _ _ hf
 obtain ⟨p, n, c, rfl⟩ := hv
 have : u = .slice p n c := by
  simp [Value.cells] at h1
  exact h1.symm
 subst this
 exact ⟨a, h2, h3, h4⟩
theorem Rd.num_arg {t : TypeId} {H : Type} {enc : TypeId × Value → H} {w : World} {v : Value} {d : DataW H} {ps : List MemPlace} (ht : P.underlying t = some (.int .i64)) (hv : ∃ n, v = .int .i64 n)
 (h : DataW.Trod enc P w 0 (fun _ => true) true t v d ps) : ∃ n : Int, v = .int .i64 n ∧ okNum n := by
 obtain ⟨fuel, hf⟩ := h
 obtain ⟨a, h1, h3, h4⟩ := Rd.num ht H enc w fuel _ _ hf
 obtain ⟨s, rfl⟩ := hv
 have h1' : [Value.int .i64 s] = [Value.int .i64 a] := h1
 simp at h1'
 subst h1'
 exact ⟨_, rfl, h3⟩
end
theorem rdStrs : Rd Tryz.prog 46 (Sl txt 1) (okList okTxt) (szList szTxt) := Rd.slice Tryz.underlying46 (by decide) (by kernel_rfl) (Rd.txt Tryz.underlying9)
end
section
open Go.RowKit Go.ChangeShapes Go.WideShapes Go.ChangeAt
section
variable {H : Type} {enc : TypeId × Value → H}
end
theorem maxLen_cell {w : World} (h : w.ShapedOpen Tryz.prog) : ∃ m, w.cell? ⟨0, 0, none⟩ = some (.int .i64 m) :=
 cell_of_shapedOpen_int (P := Tryz.prog) (g := 0) (t := 3) (zero := #[.int .i64 0]) h (of_decide_eq_true (by kernel_rfl)) (by kernel_rfl) rfl (by kernel_rfl) (by kernel_rfl) Tryz.underlying3
end
section
open Go.RowKit Go.ChangeShapes Go.WideShapes Go.ChangeAt
section
variable {H : Type} {enc : TypeId × Value → H}
end
end
section
open Go.RowKit Go.ChangeShapes Go.WideShapes Go.ChangeAt
section
variable {H : Type} {enc : TypeId × Value → H}
theorem handed_sized_x {a : Assume} {C : Checked} {os : Os} {f : FuncId} {fn : Func} {s : ChangeSpec} {conds : List PathCond} {apart fresh handsOn again : Bool} {X : World → Array Value → Prop}
 (own : ownKnob C.prog.godebug = none) (started : os.Started) (noInit : C.prog.inits.idxOf? f = none) (hfn : C.prog.funcs[f]? = some fn)
 (witness : ∃ (w : World) (tape : Tape) (i : Input), w.os = os ∧ (w.forCall tape i).Shaped C.prog ∧ i.vars = [] ∧ Input.okWide C.prog (w.forCall tape i) .any w.heap.size f i ∧
   ((s.pre enc C.prog fn conds apart (w.forCall tape i).memory i.args ∧ X (w.forCall tape i).memory i.args) ∧ sizedMet enc C.prog fn (OpenSpec.ofChange s) apart (w.forCall tape i).memory i.args) ∧ a.holds C.prog (lone (Frame.enter C.prog f i.args .normal) [] (w.forCall tape i)))
 (contract : ∀ (W : World) (base : Nat) (args : Array Value) (ds gs : List (DataW H)) (before : List MemPlace),
   (∀ (j : Nat) t v, fn.params[j]? = some t → args[j]? = some v → Value.okWide C.prog W .any base t v) →
   DataW.Whole enc C.prog fn.params.toList s.vars apart W args.toList ds gs before →
   W.ShapedOpen C.prog →
   (DataW.weightsEach C.prog (fn.params.toList ++ (OpenSpec.ofChange s).bare.plain.varTypes C.prog) (ds ++ gs)).all (· ≤ reachBytes) = true →
   X W.memory args →
   Calls C.prog f args W fun e W' => ∃ v, e = .returned v ∧ s.post enc C.prog fn apart fresh handsOn again W args v W') :
 ReturnsInHanded a C os f .any (fun w args => (s.pre enc C.prog fn conds apart w args ∧ X w args) ∧ sizedMet enc C.prog fn (OpenSpec.ofChange s) apart w args) (s.post enc C.prog fn apart fresh handsOn again) := by
 refine returnsInHanded_of_calls own started noInit witness ?_
 intro w tape i _ hsh _ hok hpre hholds
 obtain ⟨_, _, _, fn', hfn', _, _, _, _, hval⟩ := hok
 have e : fn' = fn := Option.some.inj (hfn'.symm.trans hfn)
 subst e
 obtain ⟨⟨⟨ds, gs, before, hw, hc⟩, hx⟩, hz⟩ := hpre
 have hw' := DataW.Whole.of_heap (w' := w.forCall tape i) (by rfl) hw
 refine (contract (w.forCall tape i) w.heap.size i.args ds gs before hval hw' hsh (sizedMet.weights hz hw) hx).mono fun e W' ⟨v, he, hp⟩ => ?_
 subst he
 exact ChangeSpec.post_blind hp
end
end
section
open Go.RowKit
abbrev Pol := Txt × List Txt
abbrev Lab := List Pol
def pol : Enc Pol := Both txt (Sl txt 1)
theorem pol_stays : Stays pol := Both.stays (One.stays _) (Sl.stays (One.stays _) 1)
abbrev Lbl (w : World) (l : Lab) (v : Value) : Prop := SliceOf pol 2 w l v
theorem Lbl.stays {w w' : World} (hk : Keeps w w') {l : Lab} {v : Value} (h : Lbl w l v) : Lbl w' l v := SliceOf.stays pol_stays hk h
def okPol : Pol → Prop := okBoth okTxt (okList okTxt)
abbrev okLab : Lab → Prop := okList okPol
def szPol : Pol → Nat := szBoth szTxt (szList szTxt)
theorem rdPol : Rd Tryz.prog 92 pol okPol szPol :=
 Rd.struct (tot := 2) Tryz.underlying92 (by kernel_rfl) (Rdf.cons (k := 1) (o' := 1) rfl rfl (by kernel_rfl) rfl (Rd.txt Tryz.underlying9) (Rdf.last (k := 1) rfl rfl (by kernel_rfl) rdStrs))
theorem rdLabel : Rd Tryz.prog 23 (Sl pol 2) okLab (szList szPol) := Rd.slice Tryz.underlying23 (by decide) (by kernel_rfl) rdPol
theorem Lbl.cells {w : World} {l : Lab} {v : Value} (h : Lbl w l v) :
 ∃ b o c p, v = .slice p l.length c ∧ l.length ≤ c ∧ c ≤ 9223372036854775807 ∧ (0 < l.length → p = some ⟨b, o, none⟩) ∧
   ∀ (i : Nat) (h : i < l.length), ∃ u, w.cell? ⟨b, o + i * 2, none⟩ = some (.string l[i].1) ∧ w.cell? ⟨b, o + i * 2 + 1, none⟩ = some u ∧ Strs w l[i].2 u := by
 obtain ⟨p, c, e, h1, h2, h3⟩ := h
 unfold maxLen at h2
 rcases h3 with rfl | ⟨b, o, hp, h3⟩
 · exact ⟨0, 0, c, p, e, h1, by omega, fun h => absurd h (by simp), fun i h => absurd h (by simp)⟩
 · refine ⟨b, o, c, p, e, h1, by omega, fun _ => hp, fun i hi => ?_⟩
   obtain ⟨vs, ⟨us, us', e1, e2, ⟨u, e3, e4⟩⟩, g2, g3⟩ := h3 i hi
   have e2' : us = [.string l[i].1] := e2
   subst e2' e3 e1
   exact ⟨u, by simpa using g3 0 _ rfl, by simpa using g3 1 _ rfl, e4⟩
end
end Go.Proofs.YtminbehofnnhmaaGreatDoor
