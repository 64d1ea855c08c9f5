/-
  Plain laws on labels: what may go on may go; whoever acts for more.
-/
import Derived.Test.YtfbieagkhbmgjaaDoorMoreP
import Derived.Test.YtfbieagkhbmgjaaDoorLabE
namespace Go.Proofs.YtfbieagkhbmgjaaDoor
set_option linter.unusedVariables false
set_option linter.unusedSimpArgs false

theorem may_iff {l : List Txt} {acts : List (Txt × Txt)} {a b : Txt} : mayB l acts a b = true ↔ has l b = true ∧ has l a = true ∧ actM l acts a b = true := by
  unfold mayB forL
  rw [Bool.and_eq_true, has_iff, has_iff, List.mem_filter, has_iff]
theorem may_refl {l : List Txt} {acts : List (Txt × Txt)} {a : Txt} (h : has l a = true) : mayB l acts a a = true :=
  may_iff.2 ⟨h, h, clos_reach.2 (.refl _)⟩
theorem may_trans {l : List Txt} {acts : List (Txt × Txt)} {a b c : Txt} (h1 : mayB l acts a b = true) (h2 : mayB l acts b c = true) : mayB l acts a c = true := by
  obtain ⟨_, ha, r1⟩ := may_iff.1 h1
  obtain ⟨hc, _, r2⟩ := may_iff.1 h2
  exact may_iff.2 ⟨hc, ha, clos_reach.2 ((clos_reach.1 r1).trans (clos_reach.1 r2))⟩
theorem may_more {l : List Txt} {acts more : List (Txt × Txt)} {a b : Txt} (h : mayB l acts a b = true) : mayB l (acts ++ more) a b = true := by
  obtain ⟨h1, h2, h3⟩ := may_iff.1 h
  exact may_iff.2 ⟨h1, h2, act_more h3⟩

theorem any_iff {α : Type} {l : List α} {q : α → Bool} : anyBy l q = true ↔ ∃ x ∈ l, q x = true := by
  unfold anyBy; rw [List.any_eq_true]
theorem lets_iff {q : Txt → Txt → Bool} {p : Pol} {s : Txt} : letsB q p s = true ↔ q s p.1 = true ∨ ∃ r ∈ p.2, q s r = true := by
  unfold letsB; rw [Bool.or_eq_true, any_iff]
theorem notAny_iff {α : Type} {l : List α} {f : α → Bool} : (!anyBy l fun x => !f x) = true ↔ ∀ x ∈ l, f x = true := by
  rw [Bool.not_eq_true', ← Bool.not_eq_true, any_iff]
  constructor
  · intro h x hx
    cases e : f x with
    | true => rfl
    | false => exact absurd ⟨x, hx, by rw [e]; rfl⟩ h
  · rintro h ⟨x, hx, e⟩
    rw [h x hx] at e
    cases e
theorem covers_iff {q : Txt → Txt → Bool} {p x : Pol} : coversB q p x = true ↔ q p.1 x.1 = true ∧ ∀ r ∈ p.2, letsB q x r = true := by
  unfold coversB; rw [Bool.and_eq_true, notAny_iff]
theorem flows_iff {q : Txt → Txt → Bool} {a b : Lab} : flowsB q a b = true ↔ ∀ x ∈ a, ∃ p ∈ b, coversB q p x = true := by
  unfold flowsB
  rw [notAny_iff]
  constructor
  · exact fun h x hx => any_iff.1 (h x hx)
  · exact fun h x hx => any_iff.2 (h x hx)

section
variable {q : Txt → Txt → Bool} (ht : ∀ a b c, q a b = true → q b c = true → q a c = true)
include ht
theorem lets_trans {p : Pol} {s r : Txt} (h1 : q s r = true) (h2 : letsB q p r = true) : letsB q p s = true := by
  rcases lets_iff.1 h2 with h | ⟨y, hy, h⟩
  · exact lets_iff.2 (.inl (ht _ _ _ h1 h))
  · exact lets_iff.2 (.inr ⟨y, hy, ht _ _ _ h1 h⟩)
theorem lets_covers {p x : Pol} {s : Txt} (hc : coversB q p x = true) (h : letsB q p s = true) : letsB q x s = true := by
  obtain ⟨c1, c2⟩ := covers_iff.1 hc
  rcases lets_iff.1 h with h | ⟨r, hr, h⟩
  · exact lets_iff.2 (.inl (ht _ _ _ h c1))
  · exact lets_trans ht h (c2 r hr)
theorem covers_trans {p x y : Pol} (h1 : coversB q p x = true) (h2 : coversB q x y = true) : coversB q p y = true := by
  obtain ⟨c1, c2⟩ := covers_iff.1 h1
  exact covers_iff.2 ⟨ht _ _ _ c1 (covers_iff.1 h2).1, fun r hr => lets_covers ht h2 (c2 r hr)⟩
theorem flows_trans {a b c : Lab} (h1 : flowsB q a b = true) (h2 : flowsB q b c = true) : flowsB q a c = true := by
  rw [flows_iff] at *
  intro x hx
  obtain ⟨p, hp, e⟩ := h1 x hx
  obtain ⟨r, hr, e'⟩ := h2 p hp
  exact ⟨r, hr, covers_trans ht e' e⟩
theorem reads_fewer {l : List Txt} {a b : Lab} (h : flowsB q a b = true) {s : Txt} (hs : s ∈ readsL q l b) : s ∈ readsL q l a := by
  unfold readsL at *
  rw [List.mem_filter] at *
  refine ⟨hs.1, ?_⟩
  rw [notAny_iff] at *
  intro x hx
  obtain ⟨p, hp, e⟩ := flows_iff.1 h x hx
  exact lets_covers ht e (hs.2 p hp)
end
theorem covers_refl {q : Txt → Txt → Bool} {p : Pol} (h1 : q p.1 p.1 = true) (h2 : ∀ r ∈ p.2, q r r = true) : coversB q p p = true :=
  covers_iff.2 ⟨h1, fun r hr => lets_iff.2 (.inr ⟨r, hr, h2 r hr⟩)⟩
theorem flows_refl {q : Txt → Txt → Bool} {a : Lab} (h : ∀ p ∈ a, q p.1 p.1 = true ∧ ∀ r ∈ p.2, q r r = true) : flowsB q a a = true :=
  flows_iff.2 fun x hx => ⟨x, hx, covers_refl (h x hx).1 (h x hx).2⟩
theorem lets_mono {q q' : Txt → Txt → Bool} (h : ∀ a b, q a b = true → q' a b = true) {p : Pol} {s : Txt} (hl : letsB q p s = true) : letsB q' p s = true := by
  rcases lets_iff.1 hl with e | ⟨r, hr, e⟩
  · exact lets_iff.2 (.inl (h _ _ e))
  · exact lets_iff.2 (.inr ⟨r, hr, h _ _ e⟩)
theorem flows_mono {q q' : Txt → Txt → Bool} (h : ∀ a b, q a b = true → q' a b = true) {a b : Lab} (hf : flowsB q a b = true) : flowsB q' a b = true := by
  rw [flows_iff] at *
  intro x hx
  obtain ⟨p, hp, e⟩ := hf x hx
  obtain ⟨c1, c2⟩ := covers_iff.1 e
  exact ⟨p, hp, covers_iff.2 ⟨h _ _ c1, fun r hr => lets_mono h (c2 r hr)⟩⟩

theorem flowsE_zero {l : List Txt} {acts : List (Txt × Txt)} {a b : Lab} (h : flowsE l acts a b = 0) : labE l acts a = 0 ∧ labE l acts b = 0 := by
  unfold flowsE at h
  split at h
  · omega
  · exact ⟨by omega, h⟩
theorem flowsR_iff {l : List Txt} {acts : List (Txt × Txt)} {a b : Lab} (h : flowsE l acts a b = 0) : flowsR l acts a b = flowsB (mayB l acts) a b := by
  unfold flowsR; rw [h]; rfl
theorem chain_law {l : List Txt} {acts : List (Txt × Txt)} {a b c : Lab} (h1 : flowsE l acts a b = 0) (h2 : flowsE l acts b c = 0) (h3 : flowsE l acts a c = 0) (h4 : flowsE l acts a a = 0) :
    flowsR l acts a a = true ∧ (flowsR l acts a b = true → flowsR l acts b c = true → flowsR l acts a c = true) := by
  rw [flowsR_iff h1, flowsR_iff h2, flowsR_iff h3, flowsR_iff h4]
  refine ⟨flows_refl fun p hp => ?_, flows_trans (q := mayB l acts) fun _ _ _ => may_trans⟩
  obtain ⟨_, h⟩ := labErr_zero (labE_check (flowsE_zero h1).1).2
  obtain ⟨_, g1, g2⟩ := h p hp
  exact ⟨may_refl g1, fun r hr => may_refl (g2 r hr)⟩
/-- Labels that are right of some chiefs are right, or wrong, of the same ones with other pairs by the pairs alone. -/
theorem labE_other {l : List Txt} {acts acts' : List (Txt × Txt)} {x : Lab} (h : labE l acts x = 0) : labE l acts' x = checkC l acts' := by
  have := (labE_check h).2
  unfold labE
  split
  · rfl
  · omega
theorem fewer_errs {l : List Txt} {acts more : List (Txt × Txt)} {a b : Lab} (h : flowsE l acts a b = 0) :
    labE l (acts ++ more) a = checkC l (acts ++ more) ∧ labE l (acts ++ more) b = checkC l (acts ++ more) ∧ flowsE l (acts ++ more) a b = checkC l (acts ++ more) := by
  obtain ⟨h1, h2⟩ := flowsE_zero h
  have e1 := labE_other (acts' := acts ++ more) h1
  have e2 := labE_other (acts' := acts ++ more) h2
  refine ⟨e1, e2, ?_⟩
  unfold flowsE
  split
  · exact e1
  · exact e2
theorem fewer_law {l : List Txt} {acts more : List (Txt × Txt)} {a b : Lab} (h : flowsE l acts a b = 0) (hf : flowsR l acts a b = true) (hc : checkC l (acts ++ more) = 0) :
    flowsR l (acts ++ more) a b = true ∧ anyBy (readsR l (acts ++ more) b) (fun s => !has (readsR l (acts ++ more) a) s) = false := by
  obtain ⟨e1, e2, e3⟩ := fewer_errs (more := more) h
  rw [hc] at e1 e2 e3
  rw [flowsR_iff h] at hf
  have hf' : flowsB (mayB l (acts ++ more)) a b = true := flows_mono (fun _ _ => may_more) hf
  refine ⟨by rw [flowsR_iff e3]; exact hf', ?_⟩
  unfold readsR
  rw [if_pos e1, if_pos e2]
  unfold anyBy
  rw [List.any_eq_false]
  intro s hs
  have := reads_fewer (q := mayB l (acts ++ more)) (fun _ _ _ => may_trans) hf' hs
  rw [has_iff.2 this]
  simp
end Go.Proofs.YtfbieagkhbmgjaaDoor
