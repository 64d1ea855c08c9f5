/-
  Plain law: a step of the scan by the bytes that are left; a text's tokens put together are read as the same tokens.
-/
import Derived.Test.YtdkclmkljcnmiaaDoorScanN
import Derived.Test.YtdkclmkljcnmiaaDoorScanF
namespace Go.Proofs.YtdkclmkljcnmiaaDoor
open Go.RowKit
set_option linter.unusedVariables false
set_option linter.unusedSimpArgs false

def runB (q : Int → Bool) (r : List UInt8) : List UInt8 := r.takeWhile fun b => q b.toNat
def signsFind (r : List UInt8) : Step := match signsL.find? (fun x => Lib.hasPrefix r x.data.toList) with
  | some x => .tok 4 x
  | none => .bad 1
/-- A step, by the bytes that are left. -/
def stepB : List UInt8 → Step
  | [] => .skip 0
  | c :: r =>
    if (c.toNat : Int) == 32 then .skip 1 else if (c.toNat : Int) == 9 then .skip 1 else if (c.toNat : Int) == 10 then .skip 1
    else if (c.toNat : Int) == 35 then .skip (runB noteB (c :: r)).length
    else if letterB c.toNat then wordOf (txtOf (runB wordB (c :: r)))
    else if digitB c.toNat then numOf c.toNat (txtOf (runB digitB (c :: r)))
    else signsFind (c :: r)
theorem run_len {q : Int → Bool} {s : Txt} {a : Nat} : runEnd q s a - a = (runB q (restOf s a)).length := by unfold runEnd runB; omega
theorem tw_take {p : UInt8 → Bool} : ∀ r : List UInt8, r.take (r.takeWhile p).length = r.takeWhile p
  | [] => rfl
  | x :: r => by
    rw [List.takeWhile_cons]
    split
    · rw [List.length_cons, List.take_succ_cons, tw_take r]
    · rfl
theorem run_txt {q : Int → Bool} {s : Txt} {a : Nat} : s.extract a (runEnd q s a) = txtOf (runB q (restOf s a)) := by
  apply txt_ext
  rw [bytesOf_extract, bytesOf_txtOf, run_len]
  unfold runB
  exact tw_take _
theorem stepB_eq {r u : List UInt8} {c : UInt8} (h : r = c :: u) : stepB r =
    if (c.toNat : Int) == 32 then .skip 1 else if (c.toNat : Int) == 9 then .skip 1 else if (c.toNat : Int) == 10 then .skip 1
    else if (c.toNat : Int) == 35 then .skip (runB noteB r).length
    else if letterB c.toNat then wordOf (txtOf (runB wordB r))
    else if digitB c.toNat then numOf c.toNat (txtOf (runB digitB r))
    else signsFind r := by subst h; rfl
theorem step_rest {s : Txt} {a : Nat} (h : a < s.size) : stepOf s a (s[a].toNat) = stepB (restOf s a) := by
  rw [stepB_eq (rest_cons h)]
  unfold stepOf
  rw [run_len, run_txt, run_txt]
  rfl

theorem tw_mem {p : UInt8 → Bool} : ∀ {r : List UInt8} {b : UInt8}, b ∈ r.takeWhile p → p b = true
  | [], _, h => by cases h
  | x :: r, b, h => by
    rw [List.takeWhile_cons] at h
    split at h
    · rename_i hx
      rcases List.mem_cons.1 h with rfl | h
      · exact hx
      · exact tw_mem h
    · cases h
theorem runB_word (q : Int → Bool) {r : List UInt8} (hq : q 32 = false) (u : List UInt8) (hu : u = [] ∨ ∃ v, u = 32 :: v) : runB q (runB q r ++ u) = runB q r := by
  have hall : ∀ b ∈ runB q r, q b.toNat = true := fun b hb => by
    exact tw_mem hb
  generalize runB q r = t at *
  rcases hu with rfl | ⟨v, rfl⟩
  · rw [List.append_nil]; exact tw_all hall
  · unfold runB
    rw [tw_more (p := fun b : UInt8 => q b.toNat) (c := 32) (show q ((32 : UInt8).toNat : Int) = false from hq)]
    exact tw_all hall
theorem wordOf_tok {t : Txt} {k : Int} {x : Txt} (h : wordOf t = .tok k x) : x = t := by
  unfold wordOf at h
  split at h
  · injection h with _ e; exact e.symm
  · split at h
    · injection h with _ e; exact e.symm
    · cases h
theorem numOf_tok {c : Int} {t : Txt} {k : Int} {x : Txt} (h : numOf c t = .tok k x) : x = t := by
  unfold numOf at h
  split at h
  · cases h
  · split at h
    · cases h
    · injection h with _ e; exact e.symm
theorem sign_blank {x : Txt} (hx : x ∈ signsL) {r y : List UInt8} (hy : y.isPrefixOf r = true) (u : List UInt8) (hu : u = [] ∨ ∃ v, u = 32 :: v) (h : x.data.toList.isPrefixOf (y ++ u) = true) : x.data.toList.isPrefixOf r = true := by
  have h' : x.data.toList.isPrefixOf y = true := by
    rcases hu with rfl | ⟨v, rfl⟩
    · simpa using h
    · rw [prefix_more (signs_no_blank x hx)] at h; exact h
  rw [List.isPrefixOf_iff_prefix] at *
  exact h'.trans hy
theorem hasPrefix_is (r x : List UInt8) : Lib.hasPrefix r x = x.isPrefixOf r := rfl
theorem find_again {α : Type} {p q : α → Bool} {x : α} : ∀ {l : List α}, l.find? p = some x → (∀ y ∈ l, q y = true → p y = true) → q x = true → l.find? q = some x
  | [], h, _, _ => by cases h
  | y :: l, h, hpq, hx => by
    rw [List.find?_cons] at h ⊢
    cases hp : p y with
    | true =>
      rw [hp] at h
      injection h with e
      subst e
      rw [hx]
    | false =>
      rw [hp] at h
      have hq : q y = false := by
        cases hq : q y with
        | true => rw [hpq y List.mem_cons_self hq] at hp; cases hp
        | false => rfl
      rw [hq]
      exact find_again h (fun z hz => hpq z (List.mem_cons_of_mem _ hz)) hx
theorem signsFind_tok {r : List UInt8} {k : Int} {x : Txt} (h : signsFind r = .tok k x) : k = 4 ∧ x ∈ signsL ∧ x.data.toList.isPrefixOf r = true ∧ signsL.find? (fun x => Lib.hasPrefix r x.data.toList) = some x := by
  unfold signsFind at h
  split at h
  · rename_i y hy
    injection h with e1 e2
    subst e2
    exact ⟨e1.symm, List.mem_of_find?_eq_some hy, by have := List.find?_some hy; rw [hasPrefix_is] at this; exact this, hy⟩
  · cases h
theorem txt_prefix {q : Int → Bool} {r : List UInt8} : (bytesOf (txtOf (runB q r))).isPrefixOf r = true := by
  rw [bytesOf_txtOf, List.isPrefixOf_iff_prefix]
  exact List.takeWhile_prefix _
/-- The three ways to a token. -/
def StepWays (r : List UInt8) (c : UInt8) (k : Int) (t : Txt) : Prop :=
  (letterB c.toNat = true ∧ wordOf (txtOf (runB wordB r)) = .tok k t) ∨ (letterB c.toNat = false ∧ digitB c.toNat = true ∧ numOf c.toNat (txtOf (runB digitB r)) = .tok k t) ∨
    (letterB c.toNat = false ∧ digitB c.toNat = false ∧ signsFind r = .tok k t)
theorem step_ways {r u : List UInt8} {c : UInt8} (e : r = c :: u) {k : Int} {t : Txt} : stepB r = .tok k t ↔ (((c.toNat : Int) == 32) = false ∧ ((c.toNat : Int) == 9) = false ∧ ((c.toNat : Int) == 10) = false ∧ ((c.toNat : Int) == 35) = false) ∧ StepWays r c k t := by
  rw [stepB_eq e]
  unfold StepWays
  cases h1 : ((c.toNat : Int) == 32) with
  | true => simp
  | false =>
    cases h2 : ((c.toNat : Int) == 9) with
    | true => simp
    | false =>
      cases h3 : ((c.toNat : Int) == 10) with
      | true => simp
      | false =>
        cases h4 : ((c.toNat : Int) == 35) with
        | true => simp
        | false =>
          cases h5 : letterB c.toNat with
          | true => simp
          | false =>
            cases h6 : digitB c.toNat with
            | true => simp
            | false => simp
/-- A token's text begins what is left. -/
theorem step_prefix {r : List UInt8} {k : Int} {t : Txt} (h : stepB r = .tok k t) : (bytesOf t).isPrefixOf r = true := by
  cases r with
  | nil => cases h
  | cons c r =>
    rcases ((step_ways rfl).1 h).2 with ⟨_, h⟩ | ⟨_, _, h⟩ | ⟨_, _, h⟩
    · rw [wordOf_tok h]; exact txt_prefix
    · rw [numOf_tok h]; exact txt_prefix
    · exact (signsFind_tok h).2.2.1
/-- A token's text by itself, or with a blank behind it, is read as the same token. -/
theorem step_again {r : List UInt8} {k : Int} {t : Txt} (h : stepB r = .tok k t) (ht : 0 < t.size) (u : List UInt8) (hu : u = [] ∨ ∃ v, u = 32 :: v) : stepB (bytesOf t ++ u) = .tok k t := by
  have hp := step_prefix h
  cases hb : bytesOf t with
  | nil => rw [← bytesOf_len, hb] at ht; simp at ht
  | cons c y =>
    cases r with
    | nil => rw [hb] at hp; simp [List.isPrefixOf] at hp
    | cons d r =>
      have hcd : c = d := by
        rw [hb] at hp
        simp [List.isPrefixOf] at hp
        exact hp.1
      subst hcd
      obtain ⟨g, hw⟩ := (step_ways rfl).1 h
      refine (step_ways (u := y ++ u) (by rw [List.cons_append])).2 ⟨g, ?_⟩
      rw [← hb]
      rcases hw with ⟨h1, h2⟩ | ⟨h1, h2, h3⟩ | ⟨h1, h2, h3⟩
      · refine .inl ⟨h1, ?_⟩
        have e2 : bytesOf t = runB wordB (c :: r) := by rw [wordOf_tok h2, bytesOf_txtOf]
        rw [e2, runB_word wordB (by decide) u hu]
        exact h2
      · refine .inr (.inl ⟨h1, h2, ?_⟩)
        have e2 : bytesOf t = runB digitB (c :: r) := by rw [numOf_tok h3, bytesOf_txtOf]
        rw [e2, runB_word digitB (by decide) u hu]
        exact h3
      · refine .inr (.inr ⟨h1, h2, ?_⟩)
        obtain ⟨rfl, hm, hpx, hf⟩ := signsFind_tok h3
        unfold signsFind
        rw [find_again (x := t) (q := fun x => Lib.hasPrefix (bytesOf t ++ u) x.data.toList) hf (fun z hz hq => by
          rw [hasPrefix_is] at hq ⊢
          exact sign_blank hz hpx u hu hq) (by
          rw [hasPrefix_is, List.isPrefixOf_iff_prefix]
          exact List.prefix_append _ _)]

theorem scanGo_zero {s : Txt} : ∀ (f a : Nat) (l L : List Tok) (q : Int), scanGo s f a l = (L, 0, q) → q = 0 := by
  intro f
  induction f with
  | zero =>
    intro a l L q h
    have e : (l, (0 : Int), (0 : Int)) = (L, 0, q) := h
    exact (congrArg (fun x : List Tok × Int × Int => x.2.2) e).symm
  | succ f ih =>
    intro a l L q h
    by_cases hlt : a < s.size
    · have hfit := step_fits hlt
      cases hs : stepOf s a (s[a].toNat) with
      | skip n => rw [scanGo_skip hlt hs] at h; exact ih _ _ _ _ h
      | bad c =>
        rw [hs] at hfit
        rw [scanGo_bad hlt hs] at h
        have e : c = 0 := congrArg (fun x : List Tok × Int × Int => x.2.1) h
        exact absurd e hfit
      | tok k t =>
        by_cases hm : l.length = 600
        · rw [scanGo_many hlt hs hm] at h
          have e : (2 : Int) = 0 := congrArg (fun x : List Tok × Int × Int => x.2.1) h
          exact absurd e (by decide)
        · rw [scanGo_tok hlt hs hm] at h; exact ih _ _ _ _ h
    · rw [scanGo_end hlt] at h
      exact (congrArg (fun x : List Tok × Int × Int => x.2.2) h).symm
theorem scanOf_zero {s : Txt} {L : List Tok} {q : Int} (h : scanOf s = (L, 0, q)) : q = 0 := by
  unfold scanOf at h
  split at h
  · have e : (2 : Int) = 0 := congrArg (fun x : List Tok × Int × Int => x.2.1) h
    exact absurd e (by decide)
  · exact scanGo_zero _ _ _ _ _ h

/-- A token that stands in a text where it says. -/
def Stands (s : Txt) (t : Tok) : Prop := ∃ p : Nat, p < s.size ∧ t.2.1 = p ∧ stepB (restOf s p) = .tok t.1 t.2.2 ∧ 0 < t.2.2.size ∧ p + t.2.2.size ≤ s.size
theorem scanGo_stands {s : Txt} : ∀ (f a : Nat) (l L : List Tok), scanGo s f a l = (L, 0, 0) → l.length ≤ 600 → (∀ t ∈ l, Stands s t) → L.length ≤ 600 ∧ ∀ t ∈ L, Stands s t := by
  intro f
  induction f with
  | zero =>
    intro a l L h hl hs
    have e : (l, (0 : Int), (0 : Int)) = (L, 0, 0) := h
    have e' : l = L := congrArg (fun x : List Tok × Int × Int => x.1) e
    subst e'
    exact ⟨hl, hs⟩
  | succ f ih =>
    intro a l L h hl hs
    by_cases hlt : a < s.size
    · have hfit := step_fits hlt
      cases hst : stepOf s a (s[a].toNat) with
      | skip n => rw [scanGo_skip hlt hst] at h; exact ih _ _ _ h hl hs
      | bad c =>
        rw [hst] at hfit
        rw [scanGo_bad hlt hst] at h
        have e : c = 0 := congrArg (fun x : List Tok × Int × Int => x.2.1) h
        exact absurd e hfit
      | tok k t =>
        rw [hst] at hfit
        by_cases hm : l.length = 600
        · rw [scanGo_many hlt hst hm] at h
          have e : (2 : Int) = 0 := congrArg (fun x : List Tok × Int × Int => x.2.1) h
          exact absurd e (by decide)
        · rw [scanGo_tok hlt hst hm] at h
          refine ih _ _ _ h (by rw [List.length_append]; simp; omega) fun x hx => ?_
          rcases List.mem_append.1 hx with hx | hx
          · exact hs x hx
          · simp at hx
            subst hx
            exact ⟨a, hlt, rfl, by rw [← step_rest hlt]; exact hst, hfit.1, hfit.2⟩
    · rw [scanGo_end hlt] at h
      have e' : l = L := congrArg (fun x : List Tok × Int × Int => x.1) h
      subst e'
      exact ⟨hl, hs⟩
theorem scanOf_stands {s : Txt} {L : List Tok} (h : scanOf s = (L, 0, 0)) : s.size ≤ 4000 ∧ L.length ≤ 600 ∧ ∀ t ∈ L, Stands s t := by
  unfold scanOf at h
  split at h
  · have e : (2 : Int) = 0 := congrArg (fun x : List Tok × Int × Int => x.2.1) h
    exact absurd e (by decide)
  · exact ⟨by omega, scanGo_stands _ _ _ _ h (by simp) (fun t ht => by cases ht)⟩

/-- Texts with a blank between each two, as bytes. -/
def gapped : List Tok → List UInt8
  | [] => []
  | [x] => bytesOf x.2.2
  | x :: y :: l => bytesOf x.2.2 ++ 32 :: gapped (y :: l)
theorem gapped_go {S : Txt} {s : Txt} : ∀ (L : List Tok) (f a : Nat) (l : List Tok), restOf S a = gapped L → a ≤ S.size → S.size - a ≤ f → l.length + L.length ≤ 600 → (∀ t ∈ L, Stands s t) →
    ∃ M, scanGo S f a l = (l ++ M, 0, 0) ∧ M.map (fun x => (x.1, x.2.2)) = L.map (fun x => (x.1, x.2.2)) := by
  intro L
  induction L with
  | nil =>
    intro f a l hr ha hf hl hs
    have h0 : S.size - a = 0 := by rw [← rest_len, hr]; rfl
    exact ⟨[], by rw [scanGo_end (by omega), List.append_nil], rfl⟩
  | cons x L ih =>
    intro f a l hr ha hf hl hs
    obtain ⟨p, hp, _, hst, hpos, _⟩ := hs x List.mem_cons_self
    obtain ⟨u, hu, hg⟩ : ∃ u, (u = [] ∨ ∃ v, u = 32 :: v) ∧ gapped (x :: L) = bytesOf x.2.2 ++ u := by
      cases L with
      | nil => exact ⟨[], .inl rfl, by rw [List.append_nil]; rfl⟩
      | cons y L => exact ⟨_, .inr ⟨_, rfl⟩, rfl⟩
    rw [hg] at hr
    have hlen : S.size - a = x.2.2.size + u.length := by rw [← rest_len, hr, List.length_append, bytesOf_len]
    have hlt : a < S.size := by omega
    obtain ⟨f, rfl⟩ : ∃ g, f = g + 1 := ⟨f - 1, by omega⟩
    have h1 : stepOf S a (S[a].toNat) = .tok x.1 x.2.2 := by rw [step_rest hlt, hr]; exact step_again hst hpos u hu
    have hl' : l.length + (L.length + 1) ≤ 600 := by simpa using hl
    rw [scanGo_tok hlt h1 (by omega)]
    have hrest : restOf S (a + x.2.2.size) = u := by
      have : restOf S (a + x.2.2.size) = (restOf S a).drop x.2.2.size := by unfold restOf; rw [List.drop_drop]
      rw [this, hr, ← bytesOf_len, List.drop_left]
    cases L with
    | nil =>
      have hu0 : u = [] := by
        have : bytesOf x.2.2 ++ u = bytesOf x.2.2 := hg.symm
        simpa using this
      subst hu0
      refine ⟨[(x.1, (a : Int), x.2.2)], ?_, rfl⟩
      rw [scanGo_end]
      simp at hlen
      omega
    | cons y L =>
      have hu1 : u = 32 :: gapped (y :: L) := by
        have : bytesOf x.2.2 ++ 32 :: gapped (y :: L) = bytesOf x.2.2 ++ u := hg
        exact (List.append_cancel_left this).symm
      rw [hu1] at hrest hlen
      have hlen' : S.size - a = x.2.2.size + ((gapped (y :: L)).length + 1) := by simpa using hlen
      have hlt2 : a + x.2.2.size < S.size := by omega
      have hpos2 : 0 < (gapped (y :: L)).length := by
        obtain ⟨_, _, _, _, hpy, _⟩ := hs y (by simp)
        have : (bytesOf y.2.2).length ≤ (gapped (y :: L)).length := by
          cases L with
          | nil => exact Nat.le_refl _
          | cons z L => show _ ≤ (bytesOf y.2.2 ++ 32 :: gapped (z :: L)).length; simp
        rw [bytesOf_len] at this
        omega
      obtain ⟨f, rfl⟩ : ∃ g, f = g + 1 := ⟨f - 1, by omega⟩
      have hb := rest_cons hlt2
      rw [hrest, List.cons.injEq] at hb
      rw [scanGo_skip (n := 1) hlt2 (by rw [← hb.1]; rfl)]
      obtain ⟨M, hM1, hM2⟩ := ih f (a + x.2.2.size + 1) (l ++ [(x.1, (a : Int), x.2.2)]) hb.2.symm (by omega) (by omega) (by simp; simp at hl'; omega) fun t ht => hs t (List.mem_cons_of_mem _ ht)
      refine ⟨(x.1, (a : Int), x.2.2) :: M, by rw [hM1, List.append_assoc]; rfl, ?_⟩
      rw [List.map_cons, List.map_cons, hM2]

theorem gapped_tail (x : Tok) : ∀ l : List Tok, gapped (x :: l) = bytesOf x.2.2 ++ Lib.joinTail [32] (l.map fun y => bytesOf y.2.2) := by
  intro l
  induction l generalizing x with
  | nil => simp [gapped, Lib.joinTail]
  | cons y l ih =>
    show bytesOf x.2.2 ++ 32 :: gapped (y :: l) = _
    rw [ih y]
    simp [Lib.joinTail]
theorem gapped_join (L : List Tok) : bytesOf (joinT (textsOf L) blankT) = gapped L := by
  unfold joinT bytesOf bytesT textsOf
  rw [List.map_map]
  cases L with
  | nil => rfl
  | cons x l =>
    rw [gapped_tail, List.map_cons, Lib.join_cons]
    rfl
theorem stands_size {s : Txt} {t : Tok} (h : Stands s t) : t.2.2.size ≤ s.size ∧ 0 ≤ t.2.1 ∧ t.2.1 ≤ s.size ∧ ((bytesOf t.2.2).isPrefixOf (restOf s t.2.1.toNat) = true) := by
  obtain ⟨p, hp, e, hst, h0, h1⟩ := h
  refine ⟨by omega, by omega, by omega, ?_⟩
  rw [e]
  exact step_prefix hst
theorem back_join {s : Txt} {L : List Tok} (h : scanOf s = (L, 0, 0)) : joinE L = 0 ∧ joinS L = joinT (textsOf L) blankT := by
  obtain ⟨h1, h2, h3⟩ := scanOf_stands h
  have hw : wideL L = false := wide_none h2 fun j hj => by
    have := (stands_size (h3 _ (List.getElem_mem hj))).1
    unfold wideT
    simp
    omega
  unfold joinE joinS
  rw [hw]
  exact ⟨rfl, rfl⟩
theorem back_law {s : Txt} {L : List Tok} (h : scanOf s = (L, 0, 0)) (hz : (joinS L).size ≤ 4000) : ∃ M, scanOf (joinS L) = (M, 0, 0) ∧ M.map (fun x => (x.1, x.2.2)) = L.map (fun x => (x.1, x.2.2)) := by
  obtain ⟨h1, h2, h3⟩ := scanOf_stands h
  have e := (back_join h).2
  generalize hS : joinS L = S at *
  unfold scanOf
  rw [if_neg (by omega)]
  refine gapped_go (s := s) L S.size 0 [] ?_ (Nat.zero_le _) (Nat.le_refl _) (by simpa using h2) h3
  rw [e]
  unfold restOf
  rw [List.drop_zero, gapped_join]
end Go.Proofs.YtdkclmkljcnmiaaDoor
