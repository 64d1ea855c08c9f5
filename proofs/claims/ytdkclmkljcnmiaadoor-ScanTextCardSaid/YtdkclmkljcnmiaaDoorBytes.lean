/-
  A text's bytes.
-/
import Derived.Test.YtdkclmkljcnmiaaDoorData
namespace Go.Proofs.YtdkclmkljcnmiaaDoor
open Go.RowKit
set_option linter.unusedVariables false
set_option linter.unusedSimpArgs false

/-- The bytes from a place on. -/
def bytesOf (s : Txt) : List UInt8 := s.data.toList
theorem bytesOf_len (s : Txt) : (bytesOf s).length = s.size := by unfold bytesOf; rw [Array.length_toList]; rfl
theorem bytesOf_at (s : Txt) (k : Nat) (h : k < s.size) : (bytesOf s)[k]'(by rw [bytesOf_len]; exact h) = s[k] := by
  unfold bytesOf
  simp [ByteArray.getElem_eq_getElem_data]
theorem bytesOf_append (a b : Txt) : bytesOf (a ++ b) = bytesOf a ++ bytesOf b := by
  unfold bytesOf; rw [ByteArray.data_append, Array.toList_append]
theorem txt_ext {a b : Txt} (h : bytesOf a = bytesOf b) : a = b := by
  cases a; cases b
  unfold bytesOf at h
  simpa using h
theorem bytesOf_extract (s : Txt) (a e : Nat) : bytesOf (s.extract a e) = ((bytesOf s).drop a).take (e - a) := by
  unfold bytesOf
  rw [ByteArray.data_extract, Array.toList_extract]
/-- The text of some bytes. -/
def txtOf (l : List UInt8) : Txt := ⟨l.toArray⟩
theorem bytesOf_txtOf (l : List UInt8) : bytesOf (txtOf l) = l := by unfold bytesOf txtOf; simp
theorem txtOf_size (l : List UInt8) : (txtOf l).size = l.length := by rw [← bytesOf_len, bytesOf_txtOf]
theorem txtOf_bytes (t : Txt) : txtOf (bytesOf t) = t := txt_ext (bytesOf_txtOf _)
end Go.Proofs.YtdkclmkljcnmiaaDoor
