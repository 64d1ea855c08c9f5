/-
  slices.Equal over texts.
-/
import Derived.Test.YtdkclmkljcnmiaaDoorEq0
import Derived.Test.YtdkclmkljcnmiaaDoorCalm
namespace Go.Proofs.YtdkclmkljcnmiaaDoor
open Go.RowKit
set_option linter.unusedVariables false
set_option linter.unusedSimpArgs false

theorem text_ne {x y : Txt} (h : ¬ x = y) : (x.toList == y.toList) = false := by
  cases e : (x.toList == y.toList) with
  | false => rfl
  | true => exact absurd (bytes_eq.1 e) h
end Go.Proofs.YtdkclmkljcnmiaaDoor
