/-
  cloisterlaw.chiefed: a closed fact, three chiefs; cloisterlaw.at: a number brought within bounds.
-/
import Derived.Test.YtfbieagkhbmgjaaDoorSlP2
import Derived.Test.YtfbieagkhbmgjaaDoorLaw
namespace Go.Proofs.YtfbieagkhbmgjaaDoor
open Go.RowKit
set_option linter.unusedVariables false
set_option linter.unusedSimpArgs false

def abcL : List Txt := [⟨#[97]⟩, ⟨#[98]⟩, ⟨#[99]⟩]
def abcP : List (Txt × Txt) := [(⟨#[97]⟩, ⟨#[98]⟩), (⟨#[98]⟩, ⟨#[99]⟩), (⟨#[97]⟩, ⟨#[99]⟩)]
theorem abc_acts : actsE abcL abcP ⟨#[97]⟩ ⟨#[99]⟩ = 0 ∧ actsB abcL abcP ⟨#[97]⟩ ⟨#[99]⟩ = true := by decide +kernel
theorem abc_least : leastE abcL abcP = 0 ∧ leastR abcL abcP = abcP.take 2 := by decide +kernel

def objT (l : List Txt) (e : TypeId) : Obj := .cells (l.map Value.string).toArray e
theorem strs_at (w : World) (l : List Txt) (e : TypeId) (n : Nat) (hn : w.heap.size = n) (hl : l.length ≤ 9223372036854775807) : Strs (w.alloc (objT l e)) l (.slice (some ⟨n, 0, none⟩) l.length l.length) := by
  subst hn; exact strs_new w l e hl
def objP (l : List (Txt × Txt)) (e : TypeId) : Obj := .cells (l.flatMap pairCells).toArray e
theorem prs_at (w : World) (l : List (Txt × Txt)) (e : TypeId) (n : Nat) (hn : w.heap.size = n) (hl : l.length ≤ 9223372036854775807) : Prs (w.alloc (objP l e)) l (.slice (some ⟨n, 0, none⟩) l.length l.length) := by
  subst hn
  have h := World.ownsRow_lit (base := w.heap.size) (e := e) (size := 2) w (l.flatMap pairCells).toArray l.length (Nat.le_refl _) (by unfold maxLen; omega) (by
    simp only [List.size_toArray]
    exact pairs_length l)
  exact Prs.of_owns h

theorem chiefed_calls (w : World) : Calls Tryd.prog 10 #[] w fun e w' => e = .returned (.bool true) ∧ Below w.heap.size w w' := by
  have eA : Obj.cells #[.string ⟨#[97]⟩, .string ⟨#[98]⟩, .string ⟨#[99]⟩] 9 = objT abcL 9 := rfl
  have eB : Obj.cells #[.string ⟨#[97]⟩, .string ⟨#[98]⟩, .string ⟨#[98]⟩, .string ⟨#[99]⟩, .string ⟨#[97]⟩, .string ⟨#[99]⟩] 33 = objP abcP 33 := rfl
  go_enter Tryd.func10, Tryd.ntmps10
  have hA : Strs ((w.alloc (objT abcL 9)).alloc (objP abcP 33)) abcL (.slice (some ⟨w.heap.size, 0, none⟩) 3 3) :=
    (strs_at w abcL 9 _ rfl (by decide)).stays (keeps_of_below ((Below.refl _ _).alloc (Nat.le_refl _) _))
  have hB : Prs ((w.alloc (objT abcL 9)).alloc (objP abcP 33)) abcP (.slice (some ⟨w.heap.size + 1, 0, none⟩) 3 3) := prs_at _ abcP 33 _ (by simp) (by decide)
  have hW : Below w.heap.size w ((w.alloc (objT abcL 9)).alloc (objP abcP 33)) := ((Below.refl _ _).alloc (Nat.le_refl _) _).alloc (by simp) _
  have HA := Lib.hid hA
  have HB := Lib.hid hB
  have HW := Lib.hid hW
  clear hA hB hW
  go_wp2_with (fail)
  generalize (w.alloc (objT abcL 9)).alloc (objP abcP 33) = W at *
  refine (acts_calls abcL abcP _ _ _ _ _ HA.out HB.out).mono ?_
  rintro e w1 ⟨rfl, hb1⟩
  rw [abc_acts.1, abc_acts.2]
  go_wp2_with (fail)
  refine (least_calls abcL abcP _ _ _ (HA.out.stays (keeps_of_below hb1)) (HB.out.stays (keeps_of_below hb1))).mono ?_
  rintro e w2 ⟨x, rfl, hx, hb2⟩
  rw [abc_least.1]
  rw [abc_least.2] at hx
  have hx' := hx
  obtain ⟨b, o, c, p, rfl, hlc, hcm, hp, _⟩ := hx.cells
  obtain rfl := hp (by decide)
  have e3 : (abcP.take 2).length = 2 := rfl
  rw [e3] at hx' ⊢
  clear hx e3
  have hy : Prs w2 (abcP.take 2) (.slice (some ⟨w.heap.size + 1, 0, none⟩) 2 3) := SliceOf.take (HB.out.stays (keeps_of_below (hb1.trans (hb2.mono hb1.size)))) 2 (by decide)
  have HX := Lib.hid hx'
  have HY := Lib.hid hy
  clear hx' hy
  go_wp2_with (fail)
  refine (equalP_calls (abcP.take 2) (abcP.take 2) _ _ _ HX.out HY.out).mono ?_
  rintro e w3 ⟨rfl, n, rfl⟩
  have e4 : (abcP.take 2 == abcP.take 2) = true := by rw [beq_iff_eq]
  rw [e4]
  go_wp2
  go_ret
  exact ⟨rfl, below_drewN (HW.out.trans ((hb1.trans (hb2.mono hb1.size)).mono HW.out.size)) n⟩

end Go.Proofs.YtfbieagkhbmgjaaDoor
