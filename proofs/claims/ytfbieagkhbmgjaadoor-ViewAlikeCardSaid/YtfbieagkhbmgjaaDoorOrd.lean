/-
  Plain law: comparisons that are total; sorting by them; each once.
-/
import Derived.Test.YtfbieagkhbmgjaaDoorBytes
import Derived.Lib.Bytealg
import Derived.Lib.SlicesCompact
namespace Go.Proofs.YtfbieagkhbmgjaaDoor
open Go.RowKit
set_option linter.unusedVariables false
set_option linter.unusedSimpArgs false

/-- A comparison that parts all that are two. -/
structure Tot {α : Type} (f : α → α → Int) : Prop where
  zero : ∀ a b, f a b = 0 ↔ a = b
  anti : ∀ a b, f b a = - f a b
  trans : ∀ a b c, f a b < 0 → f b c < 0 → f a c < 0

def lexC {α : Type} (f : α → α → Int) : List α → List α → Int
  | [], [] => 0
  | [], _ :: _ => -1
  | _ :: _, [] => 1
  | a :: as, b :: bs => if f a b = 0 then lexC f as bs else f a b
def pairC {α β : Type} (f : α → α → Int) (g : β → β → Int) (x y : α × β) : Int := if f x.1 y.1 = 0 then g x.2 y.2 else f x.1 y.1

theorem Tot.lex {α : Type} {f : α → α → Int} (h : Tot f) : Tot (lexC f) := by
  refine ⟨?_, ?_, ?_⟩
  · intro a
    induction a with
    | nil => intro b; cases b <;> simp [lexC]
    | cons x a ih =>
      intro b
      cases b with
      | nil => simp [lexC]
      | cons y b =>
        unfold lexC
        by_cases e : f x y = 0
        · rw [if_pos e, ih, (h.zero x y).1 e]; simp
        · rw [if_neg e]
          constructor
          · intro e'; exact absurd e' e
          · intro e'
            injection e' with e1 e2
            exact absurd ((h.zero x y).2 e1) e
  · intro a
    induction a with
    | nil => intro b; cases b <;> simp [lexC]
    | cons x a ih =>
      intro b
      cases b with
      | nil => simp [lexC]
      | cons y b =>
        unfold lexC
        have := h.anti x y
        by_cases e : f x y = 0
        · rw [if_pos e, if_pos (by omega), ih]
        · rw [if_neg e, if_neg (by omega), this]
  · intro a
    induction a with
    | nil =>
      intro b c h1 h2
      cases b with
      | nil => simp [lexC] at h1
      | cons y b =>
        cases c with
        | nil => simp [lexC] at h2
        | cons z c => simp [lexC]
    | cons x a ih =>
      intro b c h1 h2
      cases b with
      | nil => simp [lexC] at h1
      | cons y b =>
        cases c with
        | nil => simp [lexC] at h2
        | cons z c =>
          unfold lexC at h1 h2 ⊢
          by_cases e1 : f x y = 0
          · rw [if_pos e1] at h1
            have exy := (h.zero x y).1 e1
            subst exy
            by_cases e2 : f x z = 0
            · rw [if_pos e2] at h2 ⊢
              exact ih _ _ h1 h2
            · rw [if_neg e2] at h2 ⊢
              exact h2
          · rw [if_neg e1] at h1
            by_cases e2 : f y z = 0
            · have eyz := (h.zero y z).1 e2
              subst eyz
              rw [if_neg e1]; exact h1
            · rw [if_neg e2] at h2
              have := h.trans x y z h1 h2
              rw [if_neg (by omega)]; exact this
theorem Tot.pair {α β : Type} {f : α → α → Int} {g : β → β → Int} (h : Tot f) (k : Tot g) : Tot (pairC f g) := by
  refine ⟨?_, ?_, ?_⟩
  · intro a b
    unfold pairC
    by_cases e : f a.1 b.1 = 0
    · rw [if_pos e, k.zero]
      have := (h.zero _ _).1 e
      constructor
      · intro e2; exact Prod.ext this e2
      · intro e2; rw [e2]
    · rw [if_neg e]
      constructor
      · intro e2; exact absurd e2 e
      · intro e2; exact absurd ((h.zero _ _).2 (by rw [e2])) e
  · intro a b
    unfold pairC
    have := h.anti a.1 b.1
    by_cases e : f a.1 b.1 = 0
    · rw [if_pos e, if_pos (by omega), k.anti]
    · rw [if_neg e, if_neg (by omega), this]
  · intro a b c h1 h2
    unfold pairC at *
    by_cases e1 : f a.1 b.1 = 0
    · rw [if_pos e1] at h1
      rw [(h.zero _ _).1 e1]
      by_cases e2 : f b.1 c.1 = 0
      · rw [if_pos e2] at h2 ⊢
        exact k.trans _ _ _ h1 h2
      · rw [if_neg e2] at h2 ⊢
        exact h2
    · rw [if_neg e1] at h1
      by_cases e2 : f b.1 c.1 = 0
      · rw [← (h.zero _ _).1 e2, if_neg e1]; exact h1
      · rw [if_neg e2] at h2
        have := h.trans _ _ _ h1 h2
        rw [if_neg (by omega)]; exact this
def byteC (a b : UInt8) : Int := if a.toNat < b.toNat then -1 else if b.toNat < a.toNat then 1 else 0
theorem byteC_tot : Tot byteC := by
  refine ⟨?_, ?_, ?_⟩
  · intro a b
    unfold byteC
    constructor
    · intro h
      split at h
      · cases h
      · split at h
        · cases h
        · exact UInt8.toNat_inj.1 (by omega)
    · intro e; subst e; simp
  · intro a b
    unfold byteC
    split <;> split <;> first | rfl | omega
  · intro a b c h1 h2
    unfold byteC at *
    split at h1
    · split at h2
      · rw [if_pos (by omega)]; decide
      · split at h2 <;> omega
    · split at h1 <;> omega
theorem compareBytes_lex : ∀ a b : List UInt8, Lib.compareBytes a b = lexC byteC a b
  | [], [] => rfl
  | [], _ :: _ => rfl
  | _ :: _, [] => rfl
  | a :: as, b :: bs => by
    unfold Lib.compareBytes lexC byteC
    by_cases h1 : a < b
    · have h1' := UInt8.lt_iff_toNat_lt.1 h1
      rw [if_pos h1, if_pos h1']; rfl
    · have h1' : ¬ a.toNat < b.toNat := fun h => h1 (UInt8.lt_iff_toNat_lt.2 h)
      by_cases h2 : b < a
      · have h2' := UInt8.lt_iff_toNat_lt.1 h2
        rw [if_neg h1, if_neg h1', if_pos h2, if_pos h2']; rfl
      · have h2' : ¬ b.toNat < a.toNat := fun h => h2 (UInt8.lt_iff_toNat_lt.2 h)
        rw [if_neg h1, if_neg h1', if_neg h2, if_neg h2', if_pos rfl]
        exact compareBytes_lex as bs
/-- Texts compared. -/
def cmpT (a b : Txt) : Int := Lib.compareBytes (bytesOf a) (bytesOf b)
theorem cmpT_tot : Tot cmpT := by
  have h := byteC_tot.lex
  refine ⟨fun a b => ?_, fun a b => ?_, fun a b c => ?_⟩
  · unfold cmpT
    rw [compareBytes_lex, h.zero]
    exact ⟨txt_ext, fun e => by rw [e]⟩
  · unfold cmpT
    rw [compareBytes_lex, compareBytes_lex, h.anti]
  · unfold cmpT
    rw [compareBytes_lex, compareBytes_lex, compareBytes_lex]
    exact h.trans _ _ _
theorem compareBytes_lt (a b : List UInt8) : Lib.compareBytes a b < 0 ↔ a < b := by
  induction a generalizing b with
  | nil => cases b <;> simp [Lib.compareBytes]
  | cons x a ih =>
    cases b with
    | nil => simp [Lib.compareBytes]
    | cons y b =>
      unfold Lib.compareBytes
      rw [List.cons_lt_cons_iff]
      by_cases h1 : x < y
      · rw [if_pos h1]; simp [h1]
      · by_cases h2 : y < x
        · rw [if_neg h1, if_pos h2]
          have : x ≠ y := fun e => by subst e; exact h1 h2
          simp [h1, this]
        · rw [if_neg h1, if_neg h2, ih]
          have : x = y := by
            rw [UInt8.lt_iff_toNat_lt] at h1 h2
            exact UInt8.toNat_inj.1 (by omega)
          simp [this]

/-- Rising, each once. -/
abbrev Rising {α : Type} (f : α → α → Int) (l : List α) : Prop := l.Pairwise fun x y => f x y < 0
/-- Rising. -/
abbrev Upward {α : Type} (f : α → α → Int) (l : List α) : Prop := l.Pairwise fun x y => f x y ≤ 0
section
variable {α : Type} {f : α → α → Int}
theorem Tot.le_trans (h : Tot f) {a b c : α} (h1 : f a b ≤ 0) (h2 : f b c ≤ 0) : f a c ≤ 0 := by
  by_cases e1 : f a b = 0
  · rw [(h.zero a b).1 e1]; exact h2
  · by_cases e2 : f b c = 0
    · rw [← (h.zero b c).1 e2]; exact h1
    · have := h.trans a b c (by omega) (by omega); omega
theorem Tot.le_antisymm (h : Tot f) {a b : α} (h1 : f a b ≤ 0) (h2 : f b a ≤ 0) : a = b := by
  have := h.anti a b
  exact (h.zero a b).1 (by omega)
theorem Tot.self (h : Tot f) (a : α) : f a a = 0 := (h.zero a a).2 rfl
theorem Tot.unique (h : Tot f) {l m : List α} (hp : l.Perm m) (hl : Upward f l) (hm : Upward f m) : l = m :=
  List.Perm.eq_of_pairwise (le := fun x y => f x y ≤ 0) (fun a b _ _ h1 h2 => h.le_antisymm h1 h2) hl hm hp
def srt (f : α → α → Int) (l : List α) : List α := l.mergeSort fun x y => decide (f x y ≤ 0)
theorem Tot.srt_up (h : Tot f) (l : List α) : Upward f (srt f l) := by
  have := List.pairwise_mergeSort (le := fun x y => decide (f x y ≤ 0)) (fun a b c h1 h2 => by simp at *; exact h.le_trans h1 h2) (fun a b => by have := h.anti a b; simp; omega) l
  exact this.imp fun h => by simpa using h
theorem srt_perm (f : α → α → Int) (l : List α) : (srt f l).Perm l := List.mergeSort_perm _ _
theorem srt_of_up {l : List α} (hl : Upward f l) : srt f l = l := List.mergeSort_of_pairwise (hl.imp fun h => by simpa using h)
theorem mem_srt {a : α} {l : List α} : a ∈ srt f l ↔ a ∈ l := List.mem_mergeSort
theorem Rising.up {l : List α} (h : Rising f l) : Upward f l := h.imp fun h => by omega
theorem Tot.nodup (h : Tot f) {l : List α} (hl : Rising f l) : l.Nodup := by
  rw [List.nodup_iff_pairwise_ne]
  exact hl.imp fun {a b} hab e => by subst e; rw [h.self] at hab; omega

variable [DecidableEq α]
/-- Each that is another one than that ahead of it. -/
def dedupFrom (p : α) : List α → List α
  | [] => []
  | x :: l => if x = p then dedupFrom p l else x :: dedupFrom x l
def dedup : List α → List α
  | [] => []
  | x :: l => x :: dedupFrom x l
theorem mem_dedupFrom {a p : α} {l : List α} : a ∈ p :: dedupFrom p l ↔ a ∈ p :: l := by
  induction l generalizing p with
  | nil => rfl
  | cons x l ih =>
    unfold dedupFrom
    by_cases e : x = p
    · rw [if_pos e, ih]
      subst e
      simp
    · rw [if_neg e]
      have := ih (p := x)
      simp only [List.mem_cons] at this ⊢
      rw [this]
theorem mem_dedup {a : α} {l : List α} : a ∈ dedup l ↔ a ∈ l := by
  cases l with
  | nil => rfl
  | cons x l => exact mem_dedupFrom
theorem Tot.dedupFrom_rising (h : Tot f) {p : α} {l : List α} (hl : Upward f (p :: l)) : Rising f (p :: dedupFrom p l) := by
  induction l generalizing p with
  | nil => simp [dedupFrom]
  | cons x l ih =>
    unfold dedupFrom
    obtain ⟨h1, h2⟩ := List.pairwise_cons.1 hl
    by_cases e : x = p
    · rw [if_pos e]
      subst e
      exact ih h2
    · rw [if_neg e]
      have hr := ih h2
      refine List.pairwise_cons.2 ⟨fun a ha => ?_, hr⟩
      have ha' := (mem_dedupFrom).1 ha
      have hle := h1 a ha'
      have hpx : f p x < 0 := by
        have h3 := h1 x (by simp)
        have h4 : f p x ≠ 0 := fun e' => e ((h.zero p x).1 e').symm
        omega
      rcases List.mem_cons.1 ha with rfl | ha2
      · exact hpx
      · have hxa := (List.pairwise_cons.1 hr).1 a ha2
        exact h.trans _ _ _ hpx hxa
theorem Tot.dedup_rising (h : Tot f) {l : List α} (hl : Upward f l) : Rising f (dedup l) := by
  cases l with
  | nil => exact List.Pairwise.nil
  | cons x l => exact h.dedupFrom_rising hl
theorem dedupFrom_self (h : Tot f) {p : α} {l : List α} (hl : Rising f (p :: l)) : dedupFrom p l = l := by
  induction l generalizing p with
  | nil => rfl
  | cons x l ih =>
    replace hl := List.pairwise_cons.1 hl
    unfold dedupFrom
    rw [if_neg (fun e => by subst e; have := hl.1 x (by simp); rw [h.self] at this; omega), ih hl.2]
theorem dedup_self (h : Tot f) {l : List α} (hl : Rising f l) : dedup l = l := by
  cases l with
  | nil => rfl
  | cons x l => show x :: dedupFrom x l = _; rw [dedupFrom_self h hl]
/-- What is kept of the first so many, by places. -/
def keptTo (l : List α) (m : Nat) : List α := ((List.range m).filter fun j => decide (j = 0 ∨ l[j]? ≠ l[j - 1]?)).filterMap fun j => l[j]?
theorem keptTo_succ (l : List α) (m : Nat) : keptTo l (m + 1) = keptTo l m ++ (if m = 0 ∨ l[m]? ≠ l[m - 1]? then l[m]?.toList else []) := by
  unfold keptTo
  rw [List.range_succ, List.filter_append, List.filterMap_append]
  congr 1
  by_cases h : m = 0 ∨ l[m]? ≠ l[m - 1]?
  · rw [if_pos h, show ([m].filter fun j => decide (j = 0 ∨ l[j]? ≠ l[j - 1]?)) = [m] by simp only [List.filter_cons, List.filter_nil]; rw [if_pos (decide_eq_true h)]]
    simp only [List.filterMap_cons, List.filterMap_nil]
    cases l[m]? <;> rfl
  · rw [if_neg h, show ([m].filter fun j => decide (j = 0 ∨ l[j]? ≠ l[j - 1]?)) = [] by simp only [List.filter_cons, List.filter_nil]; rw [if_neg (by rw [decide_eq_false h]; decide)]]
    rfl
theorem dedupFrom_snoc {p x : α} {l : List α} : dedupFrom p (l ++ [x]) = dedupFrom p l ++ (if (p :: l).getLast? = some x then [] else [x]) := by
  induction l generalizing p with
  | nil =>
    simp only [List.nil_append, dedupFrom]
    by_cases e : x = p
    · subst e; simp
    · rw [if_neg e, if_neg (by simpa using fun e' => e e'.symm)]
  | cons y l ih =>
    rw [List.cons_append]
    unfold dedupFrom
    by_cases e : y = p
    · rw [if_pos e, if_pos e, ih]
      subst e
      simp
    · rw [if_neg e, if_neg e, ih, List.cons_append]
      congr 2
theorem dedup_snoc {x : α} {l : List α} : dedup (l ++ [x]) = dedup l ++ (if l.getLast? = some x then [] else [x]) := by
  cases l with
  | nil => rfl
  | cons y l =>
    show y :: dedupFrom y (l ++ [x]) = (y :: dedupFrom y l) ++ _
    rw [dedupFrom_snoc]
    rfl
theorem keptTo_dedup (l : List α) : ∀ m, m ≤ l.length → keptTo l m = dedup (l.take m)
  | 0, _ => rfl
  | m + 1, h => by
    rw [keptTo_succ, keptTo_dedup l m (by omega), List.take_succ_eq_append_getElem (by omega), dedup_snoc]
    congr 1
    rw [List.getElem?_eq_getElem (by omega)]
    cases m with
    | zero => simp
    | succ m =>
      have e : (l.take (m + 1)).getLast? = some l[m] := by
        rw [List.getLast?_eq_getElem?, List.length_take, Nat.min_eq_left (by omega)]
        simp [List.getElem?_take]
      rw [e, show m + 1 - 1 = m from rfl, List.getElem?_eq_getElem (by omega)]
      by_cases e2 : l[m] = l[m + 1]
      · simp [e2]
      · have e3 : ¬ l[m + 1] = l[m] := fun e => e2 e.symm
        simp [e2, e3]
theorem keptTo_all (l : List α) : keptTo l l.length = dedup l := by rw [keptTo_dedup l _ (Nat.le_refl _), List.take_length]
theorem compact_dedup [Inhabited α] (l : List α) : Lib.compact l = dedup l := by
  rw [← keptTo_all]
  unfold Lib.compact
  have : ∀ m, m ≤ l.length → Lib.compactUpTo l.toArray m = keptTo l m := by
    intro m
    induction m with
    | zero => intro _; rfl
    | succ m ih =>
      intro h
      rw [Lib.compactUpTo_succ, keptTo_succ, ih (by omega)]
      congr 1
      unfold Lib.keeps
      have e1 : l.toArray[m]! = l[m] := by simp [getElem!_pos, show m < l.length by omega]
      have e2 : l.toArray[m - 1]! = l[m - 1] := by simp [getElem!_pos, show m - 1 < l.length by omega]
      rw [e1, e2, List.getElem?_eq_getElem (by omega), List.getElem?_eq_getElem (by omega)]
      simp
  exact this _ (Nat.le_refl _)
end
/-- Two rising lists, the one's members among the other's. -/
theorem Tot.sublist {α : Type} {f : α → α → Int} (h : Tot f) : ∀ {l m : List α}, Rising f l → Rising f m → (∀ x ∈ l, x ∈ m) → l.Sublist m
  | [], _, _, _, _ => List.nil_sublist _
  | x :: l, [], _, _, hs => by have := hs x (by simp); cases this
  | x :: l, y :: m, hl, hm, hs => by
    replace hl := List.pairwise_cons.1 hl
    replace hm := List.pairwise_cons.1 hm
    rcases List.mem_cons.1 (hs x (by simp)) with e | hx
    · subst e
      refine List.Sublist.cons_cons _ (h.sublist hl.2 hm.2 fun z hz => ?_)
      rcases List.mem_cons.1 (hs z (List.mem_cons_of_mem _ hz)) with e | hz2
      · subst e
        have := hl.1 z hz
        rw [h.self] at this; omega
      · exact hz2
    · refine List.Sublist.cons _ (h.sublist (List.pairwise_cons.2 hl) hm.2 fun z hz => ?_)
      have hyx : f y x < 0 := hm.1 x hx
      have hyz : f y z < 0 := by
        rcases List.mem_cons.1 hz with e | hz2
        · rw [e]; exact hyx
        · exact h.trans _ _ _ hyx (hl.1 z hz2)
      rcases List.mem_cons.1 (hs z hz) with e | hz2
      · subst e; rw [h.self] at hyz; omega
      · exact hz2
/-- All lists that are left of one when some of it is left out. -/
def subs {α : Type} : List α → List (List α)
  | [] => [[]]
  | x :: l => subs l ++ (subs l).map (x :: ·)
theorem subs_length {α : Type} : ∀ l : List α, (subs l).length = 2 ^ l.length
  | [] => rfl
  | x :: l => by
    unfold subs
    rw [List.length_append, List.length_map, subs_length l, List.length_cons, Nat.pow_succ]; omega
theorem mem_subs {α : Type} {l m : List α} (h : l.Sublist m) : l ∈ subs m := by
  induction h with
  | slnil => simp [subs]
  | cons a h ih => unfold subs; exact List.mem_append_left _ ih
  | cons_cons a h ih => unfold subs; exact List.mem_append_right _ (List.mem_map.2 ⟨_, ih, rfl⟩)
end Go.Proofs.YtfbieagkhbmgjaaDoor
