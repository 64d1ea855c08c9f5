/-
  The map of names that were seen, as the reference counts them.
-/
import Derived.Test.YtfbieagkhbmgjaaDoorChiefB
import Derived.Test.YtfbieagkhbmgjaaDoorLaw
import Derived.ProofKit
import Derived.Maps.OwnOps
import Derived.Maps.Views
import Derived.Maps.OwnSet
namespace Go.Proofs.YtfbieagkhbmgjaaDoor
open Go.RowKit Go.Maps Go.WideMaps Go.WideElems Go.WideShapes
set_option linter.unusedVariables false
set_option linter.unusedSimpArgs false

def keyS (s : Txt) : Lit := .string s.data.toList
theorem law_str : Keyed Tryd.prog 9 := string_keyed Tryd.underlying9
theorem key_str {s : Txt} (h : okTxt s) : keyOf Tryd.prog 9 (.string s) = some (keyS s) := keyOf_string_mk Tryd.underlying9 (by unfold okTxt at h; unfold maxLen; omega)
theorem zero_int (w : World) : (zeroValue 3).run Tryd.prog w = .ok (.int .i64 0) w := by kernel_rfl
theorem keyS_inj {a b : Txt} (h : keyS a = keyS b) : a = b := by
  unfold keyS at h
  simp only [Lit.string.injEq] at h
  cases a; cases b
  congr
  exact Array.toList_inj.1 h
/-- Each of these names was seen once, and no other. -/
def SeenD (D : DataW Unit) (l : List Txt) : Prop := ∀ x, D.atKey (keyS x) (.lit (.int .i64 0)) = .lit (.int .i64 (if has l x then 1 else 0))
theorem SeenD.start : SeenD (.map []) [] := fun x => rfl
theorem SeenD.add {D : DataW Unit} {l : List Txt} {s : Txt} (h : SeenD D l) (hm : IsMap D) (hs : has l s = false) : SeenD (D.put (keyS s) (.lit (.int .i64 1))) (l ++ [s]) := fun x => by
  by_cases e : x = s
  · subst e
    rw [atKey_put_same hm (by trivial)]
    have : has (l ++ [x]) x = true := has_iff.2 (by simp)
    rw [this]
    rfl
  · rw [atKey_put_other (fun h => e (keyS_inj h)), h x]
    have : has (l ++ [s]) x = has l x := by
      rw [Bool.eq_iff_iff, has_iff, has_iff]
      simp [e]
    rw [this]
/-- What is read at a name. -/
theorem SeenD.at {D : DataW Unit} {l : List Txt} (h : SeenD D l) {x : Txt} {c : Int} (hat : D.atKey (keyS x) (.lit (.int .i64 0)) = .lit (.int .i64 c)) : c = if has l x then 1 else 0 := by
  rw [h x] at hat
  simp at hat
  exact hat.symm
end Go.Proofs.YtfbieagkhbmgjaaDoor
