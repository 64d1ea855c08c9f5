/-
  The plain law of SolveTurned: fewer bounds, or the same ones in another order, have no greater least labels.
-/
import Derived.Test.YtjjlkckhbhgmoaaGreatSolveP
namespace Go.Proofs.YtjjlkckhbhgmoaaGreat
open Go.RowKit Go.Maps
set_option linter.unusedVariables false

theorem solveE_sub {l : List Txt} {acts : List (Txt × Txt)} {n : Int} {bs bs' : List Bnd} (he : solveE l acts n bs = 0) (hs : ∀ b ∈ bs', b ∈ bs) (hn : bs'.length ≤ bs.length) : solveE l acts n bs' = 0 := by
  obtain ⟨hc, h0, h1, h2, hb⟩ := solveE_zero he
  exact solveE_of hc h0 h1 (by omega) fun b h => hb b (hs b h)
theorem turned_le {l : List Txt} {acts : List (Txt × Txt)} {n : Int} {N : Nat} {bs bs' : List Bnd} {a c : List Lab} (he : solveE l acts n bs = 0) (ha : LeastM l acts N bs a) (hc : LeastM l acts N bs' c) (hs : ∀ b ∈ bs', b ∈ bs)
    (k : Nat) (hk : k < c.length) (hk' : k < a.length) : flowsR l acts c[k] a[k] = true := by
  have hcc := (solveE_zero he).1
  have hle := hc.least a ha.right (fun b hb => ha.holds b (hs b hb)) k
  rw [List.getElem?_eq_getElem hk, List.getElem?_eq_getElem hk'] at hle
  have e1 : labE l acts c[k] = 0 := labE_of hcc (labErr_of (by have := hc.few _ (List.getElem_mem hk); omega) (hc.right.right _ (List.getElem_mem hk)))
  have e2 : labE l acts a[k] = 0 := labE_of hcc (labErr_of (by have := ha.few _ (List.getElem_mem hk'); omega) (ha.right.right _ (List.getElem_mem hk')))
  rw [flowsR_of e1 e2]
  exact hle
end Go.Proofs.YtjjlkckhbhgmoaaGreat
