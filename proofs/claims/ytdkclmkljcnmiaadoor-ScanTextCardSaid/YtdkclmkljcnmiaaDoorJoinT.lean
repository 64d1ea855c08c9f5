/-
  Texts put together: plain laws of joinT.
-/
import Derived.Test.YtdkclmkljcnmiaaDoorStr
namespace Go.Proofs.YtdkclmkljcnmiaaDoor
open Go.RowKit
set_option linter.unusedVariables false
set_option linter.unusedSimpArgs false

theorem bytesT_append (a b : List UInt8) : bytesT (a ++ b) = bytesT a ++ bytesT b := by
  unfold bytesT; rw [ByteArray.mk_append_mk]
theorem bytesT_data (s : Txt) : bytesT s.data.toList = s := by
  cases s; simp [bytesT]
theorem joinT_nil (sep : Txt) : joinT [] sep = ByteArray.empty := rfl
theorem joinT_one (y sep : Txt) : joinT [y] sep = y := by
  unfold joinT; rw [List.map_cons, List.map_nil, Lib.join_one, bytesT_data]
theorem joinT_snoc (l : List Txt) (y sep : Txt) (h : l ≠ []) : joinT (l ++ [y]) sep = joinT l sep ++ sep ++ y := by
  cases l with
  | nil => exact absurd rfl h
  | cons x l =>
    unfold joinT
    rw [List.cons_append, List.map_cons, List.map_cons, Lib.join_cons, Lib.join_cons, List.map_append, List.map_cons, List.map_nil]
    unfold Lib.joinTail
    rw [List.map_append, List.flatten_append]
    simp only [List.map_cons, List.map_nil, List.flatten_cons, List.flatten_nil, List.append_nil, bytesT_append, bytesT_data, ByteArray.append_assoc]
theorem empty_append (s : Txt) : ByteArray.empty ++ s = s := by simp
theorem join_len (l : List Txt) (sep : Txt) (m : Nat) (h : ∀ s ∈ l, s.size ≤ m) : (Lib.join (l.map (·.data.toList)) sep.data.toList).length ≤ l.length * (m + sep.size) := by
  cases l with
  | nil => simp [Lib.join_nil]
  | cons x l =>
    rw [List.map_cons, Lib.join_cons]
    have hx : x.data.toList.length ≤ m := h x (by simp)
    have : ∀ (l : List Txt), (∀ s ∈ l, s.size ≤ m) → (Lib.joinTail sep.data.toList (l.map (·.data.toList))).length ≤ l.length * (m + sep.size) := by
      intro l
      induction l with
      | nil => intro _; simp [Lib.joinTail]
      | cons y l ih =>
        intro h
        have h1 : y.data.toList.length ≤ m := h y (by simp)
        have h2 := ih fun s hs => h s (by simp [hs])
        have h3 : sep.data.toList.length = sep.size := Array.length_toList
        simp only [Lib.joinTail, List.map_cons, List.flatten_cons, List.length_append, List.length_cons, Nat.add_mul] at h2 ⊢
        omega
    have h2 := this l fun s hs => h s (by simp [hs])
    simp only [List.length_append, List.length_cons, Nat.add_mul]
    omega
theorem joinT_size (l : List Txt) (sep : Txt) : (joinT l sep).size = (Lib.join (l.map (·.data.toList)) sep.data.toList).length := by
  exact List.size_toArray
end Go.Proofs.YtdkclmkljcnmiaaDoor
