/-
  Plain law: the normal form of a label.
-/
import Derived.Test.YtfbieagkhbmgjaaDoorOrd
import Derived.Test.YtfbieagkhbmgjaaDoorLabP
namespace Go.Proofs.YtfbieagkhbmgjaaDoor
open Go.RowKit
set_option linter.unusedVariables false
set_option linter.unusedSimpArgs false

instance instDecTxt : DecidableEq Txt := fun a b => if h : (a == b) = true then .isTrue (eq_of_beq h) else .isFalse fun e => h (by rw [e]; exact beq_self_eq_true b)
def cmpPol : Pol → Pol → Int := pairC cmpT (lexC cmpT)
theorem cmpPol_tot : Tot cmpPol := cmpT_tot.pair cmpT_tot.lex
/-- Readers of a plain policy. -/
def plainR (o : Txt) (l : List Txt) : List Txt := (dedup (srt cmpT l)).filter fun s => !(s == o)
def plainP (p : Pol) : Pol := (p.1, plainR p.1 p.2)
theorem mem_plainR {r o : Txt} {l : List Txt} : r ∈ plainR o l ↔ r ∈ l ∧ r ≠ o := by
  unfold plainR
  rw [List.mem_filter, mem_dedup, mem_srt]
  simp
theorem plainR_rising (o : Txt) (l : List Txt) : Rising cmpT (plainR o l) := (cmpT_tot.dedup_rising (cmpT_tot.srt_up l)).sublist List.filter_sublist
theorem plainR_self {o : Txt} {l : List Txt} (h : Rising cmpT l) (ho : o ∉ l) : plainR o l = l := by
  unfold plainR
  rw [srt_of_up h.up, dedup_self cmpT_tot h, List.filter_eq_self]
  intro a ha
  simp
  intro e
  subst e
  exact ho ha
theorem plainP_plain (p : Pol) : plainP (plainP p) = plainP p := by
  unfold plainP
  rw [plainR_self (plainR_rising _ _) (fun h => (mem_plainR.1 h).2 rfl)]
/-- All policies of a label, plain, rising, each once. -/
def allOf (l : Lab) : Lab := dedup (srt cmpPol (l.map plainP))
theorem allOf_rising (l : Lab) : Rising cmpPol (allOf l) := cmpPol_tot.dedup_rising (cmpPol_tot.srt_up _)
theorem mem_allOf {p : Pol} {l : Lab} : p ∈ allOf l ↔ ∃ x ∈ l, plainP x = p := by
  unfold allOf
  rw [mem_dedup, mem_srt, List.mem_map]
/-- Is there another one that covers it and stays? -/
def goneB (q : Txt → Txt → Bool) (all : Lab) (x : Pol) : Bool := all.any fun p => decide (p ≠ x) && coversB q p x && (decide (cmpPol p x < 0) || !coversB q x p)
def normOf (q : Txt → Txt → Bool) (all : Lab) : Lab := all.filter fun x => !goneB q all x
def normL (q : Txt → Txt → Bool) (l : Lab) : Lab := normOf q (allOf l)
theorem norm_sub (q : Txt → Txt → Bool) (l : Lab) : (normL q l).Sublist (allOf l) := List.filter_sublist
theorem norm_rising (q : Txt → Txt → Bool) (l : Lab) : Rising cmpPol (normL q l) := (allOf_rising l).sublist (norm_sub q l)
theorem mem_norm {q : Txt → Txt → Bool} {l : Lab} {p : Pol} (h : p ∈ normL q l) : ∃ x ∈ l, plainP x = p := mem_allOf.1 ((norm_sub q l).subset h)
theorem norm_plain {q : Txt → Txt → Bool} {l : Lab} {p : Pol} (h : p ∈ normL q l) : plainP p = p := by
  obtain ⟨x, _, rfl⟩ := mem_norm h
  exact plainP_plain x
/-- What is all plain, rising and each once is its own `allOf`. -/
theorem allOf_self {l : Lab} (h : Rising cmpPol l) (hp : ∀ p ∈ l, plainP p = p) : allOf l = l := by
  unfold allOf
  have e : l.map plainP = l := by
    rw [List.map_congr_left (g := id) hp, List.map_id]
  rw [e, srt_of_up h.up, dedup_self cmpPol_tot h]
theorem norm_self (q : Txt → Txt → Bool) (l : Lab) : normL q (normL q l) = normL q l := by
  have e : allOf (normL q l) = normL q l := allOf_self (norm_rising q l) fun p hp => norm_plain hp
  show normOf q (allOf (normL q l)) = _
  rw [e]
  unfold normOf
  rw [List.filter_eq_self]
  intro x hx
  have h1 : goneB q (allOf l) x = false := by
    have := (List.mem_filter.1 hx).2
    simpa using this
  have : goneB q (normL q l) x = false := by
    unfold goneB at h1 ⊢
    rw [List.any_eq_false] at h1 ⊢
    exact fun p hp => h1 p ((norm_sub q l).subset hp)
  rw [this]; rfl
section
variable {q : Txt → Txt → Bool}
theorem lets_plain (p : Pol) (s : Txt) : letsB q (plainP p) s = letsB q p s := by
  rw [Bool.eq_iff_iff, lets_iff, lets_iff]
  unfold plainP
  constructor
  · rintro (h | ⟨r, hr, h⟩)
    · exact .inl h
    · exact .inr ⟨r, (mem_plainR.1 hr).1, h⟩
  · rintro (h | ⟨r, hr, h⟩)
    · exact .inl h
    · by_cases e : r = p.1
      · subst e; exact .inl h
      · exact .inr ⟨r, mem_plainR.2 ⟨hr, e⟩, h⟩
theorem covers_plain_right (p x : Pol) : coversB q p (plainP x) = coversB q p x := by
  rw [Bool.eq_iff_iff, covers_iff, covers_iff]
  constructor
  · rintro ⟨h1, h2⟩
    exact ⟨h1, fun r hr => by rw [← lets_plain]; exact h2 r hr⟩
  · rintro ⟨h1, h2⟩
    exact ⟨h1, fun r hr => by rw [lets_plain]; exact h2 r hr⟩
theorem covers_plain_left (p x : Pol) : coversB q (plainP p) x = coversB q p x := by
  rw [Bool.eq_iff_iff, covers_iff, covers_iff]
  constructor
  · rintro ⟨h1, h2⟩
    refine ⟨h1, fun r hr => ?_⟩
    by_cases e : r = p.1
    · subst e; exact lets_iff.2 (.inl h1)
    · exact h2 r (mem_plainR.2 ⟨hr, e⟩)
  · rintro ⟨h1, h2⟩
    exact ⟨h1, fun r hr => h2 r (mem_plainR.1 hr).1⟩
/-- Each that is gone is covered by one that stays. -/
theorem norm_covers (hr : ∀ a b c : Txt, q a b = true → q b c = true → q a c = true) {all : Lab} (hra : Rising cmpPol all) (hc : ∀ p ∈ all, coversB q p p = true) :
    ∀ (n : Nat) (x : Pol), x ∈ all → (all.filter fun p => decide (p ≠ x) && coversB q p x && (decide (cmpPol p x < 0) || !coversB q x p)).length ≤ n → ∃ p ∈ normOf q all, coversB q p x = true := by
  intro n
  induction n with
  | zero =>
    intro x hx hn
    refine ⟨x, List.mem_filter.2 ⟨hx, ?_⟩, hc x hx⟩
    have : goneB q all x = false := by
      unfold goneB
      rw [List.any_eq_false]
      intro p hp h
      have : p ∈ all.filter fun p => decide (p ≠ x) && coversB q p x && (decide (cmpPol p x < 0) || !coversB q x p) := List.mem_filter.2 ⟨hp, h⟩
      have := List.length_pos_of_mem this
      omega
    rw [this]; rfl
  | succ n ih =>
    intro x hx hn
    cases hg : goneB q all x with
    | false => exact ⟨x, List.mem_filter.2 ⟨hx, by rw [hg]; rfl⟩, hc x hx⟩
    | true =>
      unfold goneB at hg
      rw [List.any_eq_true] at hg
      obtain ⟨p, hp, hk⟩ := hg
      have kills : ∀ {a b : Pol}, (decide (a ≠ b) && coversB q a b && (decide (cmpPol a b < 0) || !coversB q b a)) = true ↔ a ≠ b ∧ coversB q a b = true ∧ (cmpPol a b < 0 ∨ coversB q b a = false) := by
        intro a b
        simp [and_assoc]
      rw [kills] at hk
      obtain ⟨k1, k2, k3⟩ := hk
      have less : (all.filter fun y => decide (y ≠ p) && coversB q y p && (decide (cmpPol y p < 0) || !coversB q p y)).length < (all.filter fun y => decide (y ≠ x) && coversB q y x && (decide (cmpPol y x < 0) || !coversB q x y)).length := by
        have nd : (all.filter fun y => decide (y ≠ p) && coversB q y p && (decide (cmpPol y p < 0) || !coversB q p y)).Nodup := (cmpPol_tot.nodup hra).sublist List.filter_sublist
        have nd2 : (p :: all.filter fun y => decide (y ≠ p) && coversB q y p && (decide (cmpPol y p < 0) || !coversB q p y)).Nodup := by
          rw [List.nodup_cons]
          refine ⟨fun h => ?_, nd⟩
          have := (kills.1 (List.mem_filter.1 h).2).1
          exact this rfl
        have := nd2.length_le_of_subset (l₂ := all.filter fun y => decide (y ≠ x) && coversB q y x && (decide (cmpPol y x < 0) || !coversB q x y)) (by
          intro y hy
          rcases List.mem_cons.1 hy with rfl | hy
          · exact List.mem_filter.2 ⟨hp, kills.2 ⟨k1, k2, k3⟩⟩
          · obtain ⟨hy1, hy2⟩ := List.mem_filter.1 hy
            obtain ⟨j1, j2, j3⟩ := kills.1 hy2
            have hyx : coversB q y x = true := covers_trans hr j2 k2
            refine List.mem_filter.2 ⟨hy1, kills.2 ?_⟩
            cases hxy : coversB q x y with
            | false =>
              refine ⟨fun e => ?_, hyx, .inr rfl⟩
              subst e
              rw [hc y hy1] at hxy; cases hxy
            | true =>
              have hpy : coversB q p y = true := covers_trans hr k2 hxy
              have hxp : coversB q x p = true := covers_trans hr hxy j2
              have l1 : cmpPol y p < 0 := by rcases j3 with h | h; exact h; rw [hpy] at h; cases h
              have l2 : cmpPol p x < 0 := by rcases k3 with h | h; exact h; rw [hxp] at h; cases h
              have l3 := cmpPol_tot.trans _ _ _ l1 l2
              refine ⟨fun e => ?_, hyx, .inl l3⟩
              subst e
              rw [cmpPol_tot.self] at l3; omega)
        rw [List.length_cons] at this
        omega
      obtain ⟨z, hz, hzp⟩ := ih p hp (by omega)
      exact ⟨z, hz, covers_trans hr hzp k2⟩
theorem norm_covers' (hr : ∀ a b c : Txt, q a b = true → q b c = true → q a c = true) {l : Lab} (hc : ∀ p ∈ l, coversB q p p = true) {x : Pol} (hx : x ∈ l) : ∃ p ∈ normL q l, coversB q p x = true := by
  have hc' : ∀ p ∈ allOf l, coversB q p p = true := fun p hp => by
    obtain ⟨y, hy, rfl⟩ := mem_allOf.1 hp
    rw [covers_plain_left, covers_plain_right]
    exact hc y hy
  obtain ⟨p, hp, h⟩ := norm_covers hr (allOf_rising l) hc' _ (plainP x) (mem_allOf.2 ⟨x, hx, rfl⟩) (Nat.le_refl _)
  rw [covers_plain_right] at h
  exact ⟨p, hp, h⟩
/-- A label may go where its normal form may, and it to where it may. -/
theorem flows_to_norm (hr : ∀ a b c : Txt, q a b = true → q b c = true → q a c = true) {l : Lab} (hc : ∀ p ∈ l, coversB q p p = true) : flowsB q l (normL q l) = true :=
  flows_iff.2 fun x hx => norm_covers' hr hc hx
theorem flows_of_norm {l m : Lab} (h : ∀ x ∈ l, ∃ p ∈ m, coversB q p x = true) : flowsB q (normL q l) m = true := by
  refine flows_iff.2 fun x hx => ?_
  obtain ⟨y, hy, rfl⟩ := mem_norm hx
  obtain ⟨p, hp, hc⟩ := h y hy
  exact ⟨p, hp, by rw [covers_plain_right]; exact hc⟩
end
/-- How many there can be. -/
theorem plainR_few {l : List Txt} (hl : l.length ≤ 6) {o : Txt} (ho : o ∈ l) : (plainR o l).length ≤ 5 := by
  have nd : (o :: plainR o l).Nodup := by
    rw [List.nodup_cons]
    exact ⟨fun h => (mem_plainR.1 h).2 rfl, cmpT_tot.nodup (plainR_rising o l)⟩
  have := nd.length_le_of_subset (l₂ := l) (by
    intro y hy
    rcases List.mem_cons.1 hy with rfl | hy
    · exact ho
    · exact (mem_plainR.1 hy).1)
  simp at this
  omega
theorem few_pols {l : List Txt} (hl : l.length ≤ 6) {m : Lab} (hm : Rising cmpPol m) (hp : ∀ p ∈ m, plainP p = p) (hin : ∀ p ∈ m, p.1 ∈ l ∧ ∀ s ∈ p.2, s ∈ l) : m.length ≤ 192 := by
  have h1 : m ⊆ l.flatMap fun o => (subs (plainR o l)).map fun r => (o, r) := by
    intro p hpm
    obtain ⟨ho, hs⟩ := hin p hpm
    refine List.mem_flatMap.2 ⟨p.1, ho, List.mem_map.2 ⟨p.2, mem_subs ?_, rfl⟩⟩
    have e : plainR p.1 p.2 = p.2 := congrArg Prod.snd (hp p hpm)
    rw [← e]
    refine cmpT_tot.sublist (plainR_rising _ _) (plainR_rising _ _) fun r hr => ?_
    obtain ⟨r1, r2⟩ := mem_plainR.1 hr
    exact mem_plainR.2 ⟨hs r r1, r2⟩
  have h2 := (cmpPol_tot.nodup hm).length_le_of_subset h1
  have h3 : ∀ k : List Txt, (∀ o ∈ k, o ∈ l) → (k.flatMap fun o => (subs (plainR o l)).map fun r => (o, r)).length ≤ k.length * 32 := by
    intro k
    induction k with
    | nil => intro _; simp
    | cons o k ih =>
      intro hk
      have h4 := plainR_few hl (hk o (by simp))
      have h5 : 2 ^ (plainR o l).length ≤ 2 ^ 5 := Nat.pow_le_pow_right (by omega) h4
      have h6 := ih fun x hx => hk x (List.mem_cons_of_mem _ hx)
      rw [List.flatMap_cons, List.length_append, List.length_map, subs_length, List.length_cons, Nat.add_mul]
      omega
  have := h3 l fun _ h => h
  omega
end Go.Proofs.YtfbieagkhbmgjaaDoor
