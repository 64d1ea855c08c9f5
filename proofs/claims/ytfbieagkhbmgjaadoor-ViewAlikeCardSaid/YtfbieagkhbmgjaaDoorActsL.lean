/-
  Plain law: what labels let, with whom somebody acts for found by going from one to the next.
-/
import Derived.Test.YtfbieagkhbmgjaaDoorActsP
import Derived.Test.YtfbieagkhbmgjaaDoorJoinP
namespace Go.Proofs.YtfbieagkhbmgjaaDoor
set_option linter.unusedVariables false
set_option linter.unusedSimpArgs false

section
variable {l : List Txt} {acts : List (Txt × Txt)}
theorem check_acts (hc : checkC l acts = 0) : ∀ p ∈ acts, has l p.1 = true ∧ has l p.2 = true := fun p hp => by
  obtain ⟨j, hj, rfl⟩ := List.getElem_of_mem hp
  have := (checkC_zero hc).2.2.2 j hj
  simpa [actOk] using this
theorem actM_acts (hc : checkC l acts = 0) {a b : Txt} (ha : has l a = true) (hb : has l b = true) : actM l acts a b = actsF acts a b := by
  rw [Bool.eq_iff_iff, act_reach (check_acts hc) ha hb, acts_reach]
theorem may_acts (hc : checkC l acts = 0) {a b : Txt} (ha : has l a = true) (hb : has l b = true) : mayB l acts a b = actsF acts a b := by
  rw [← actM_acts hc ha hb, Bool.eq_iff_iff, may_iff]
  exact ⟨fun h => h.2.2, fun h => ⟨hb, ha, h⟩⟩
theorem any_congr {α : Type} {f g : α → Bool} : ∀ {x : List α}, (∀ y ∈ x, f y = g y) → anyBy x f = anyBy x g := fun {x} h => by
  rw [Bool.eq_iff_iff, any_iff, any_iff]
  exact ⟨fun ⟨y, hy, e⟩ => ⟨y, hy, by rw [← h y hy]; exact e⟩, fun ⟨y, hy, e⟩ => ⟨y, hy, by rw [h y hy]; exact e⟩⟩
theorem lets_acts (hc : checkC l acts = 0) {p : Pol} (hp : has l p.1 = true ∧ ∀ s ∈ p.2, has l s = true) {s : Txt} (hs : has l s = true) : letsB (mayB l acts) p s = letsB (actsF acts) p s := by
  unfold letsB
  rw [may_acts hc hs hp.1, any_congr fun r hr => may_acts hc hs (hp.2 r hr)]
theorem covers_acts (hc : checkC l acts = 0) {p x : Pol} (hp : has l p.1 = true ∧ ∀ s ∈ p.2, has l s = true) (hx : has l x.1 = true ∧ ∀ s ∈ x.2, has l s = true) : coversB (mayB l acts) p x = coversB (actsF acts) p x := by
  unfold coversB
  rw [may_acts hc hp.1 hx.1, any_congr fun r hr => by rw [lets_acts hc hx (hp.2 r hr)]]
theorem flows_acts (hc : checkC l acts = 0) {a b : Lab} (ha : RightL l a) (hb : RightL l b) : flowsB (mayB l acts) a b = flowsB (actsF acts) a b := by
  unfold flowsB
  rw [any_congr fun x hx => by rw [any_congr fun p hp => covers_acts hc ⟨(hb p hp).2.1, (hb p hp).2.2⟩ ⟨(ha x hx).2.1, (ha x hx).2.2⟩]]
theorem reads_acts (hc : checkC l acts = 0) {x : Lab} (hx : RightL l x) : readsL (mayB l acts) l x = readsL (actsF acts) l x := by
  unfold readsL
  refine List.filter_congr fun s hs => ?_
  rw [any_congr fun p hp => by rw [lets_acts hc ⟨(hx p hp).2.1, (hx p hp).2.2⟩ (has_iff.2 hs)]]
end
end Go.Proofs.YtfbieagkhbmgjaaDoor
