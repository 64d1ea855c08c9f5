/-
  slices.Equal over pairs of texts.
-/
import Derived.Test.YtfbieagkhbmgjaaDoorEqS
import Derived.Test.YtfbieagkhbmgjaaDoorCalm
import Derived.ChangeKeysEq
import Derived.Laws.StructEq
namespace Go.Proofs.YtfbieagkhbmgjaaDoor
open Go.RowKit
set_option linter.unusedVariables false
set_option linter.unusedSimpArgs false


theorem neq_pair (w : World) (a b c d : Txt) :
    (binOp .neq 33 (.agg #[.string a, .string b]) (.agg #[.string c, .string d])).run Tryd.prog w = .ok (.bool (!(a.toList == c.toList && b.toList == d.toList))) w := by
  have u := Tryd.underlying9
  have ag := Tryd.isAgg9
  have sz := Tryd.sizeOf9
  have hc : Tryd.prog.cellsOf 9 = 1 := by kernel_rfl
  obtain ⟨i0, hi, _, _, _⟩ := info_parts (z := .string ByteArray.empty) (size := 1) (bytes := 16) (P := Tryd.prog) (e := 9) (by kernel_rfl)
  rw [run_neq_struct, show (10000 : Nat) = 9999 + 1 from rfl, run_equalIn_array w 9999 _ _ Tryd.underlying33 hi]
  simp only [hc, List.range, List.range.loop, Op.eqItems]
  go_simp
  by_cases h1 : a.toList = c.toList <;> by_cases h2 : b.toList = d.toList <;> simp [h1, h2]
theorem pair_ne {x y : Txt × Txt} (h : ¬ x = y) : (x.1.toList == y.1.toList && x.2.toList == y.2.toList) = false := by
  cases e1 : (x.1.toList == y.1.toList) with
  | false => rfl
  | true =>
    cases e2 : (x.2.toList == y.2.toList) with
    | false => rfl
    | true => exact absurd (Prod.ext (bytes_eq.1 e1) (bytes_eq.1 e2)) h

set_option maxHeartbeats 400000 in
theorem equalP_calls (l m : List (Txt × Txt)) (v u : Value) (w : World) (hv : Prs w l v) (hu : Prs w m u) :
    Calls Tryd.prog 15 #[v, u] w fun e w' => e = .returned (.bool (l == m)) ∧ ∃ n, w' = w.drewN n := by
  obtain ⟨b, o, c, p, rfl, hlc, hcm, hp, hcells⟩ := Prs.cells hv
  obtain ⟨b2, o2, c2, p2, rfl, hlc2, hcm2, hp2, hcells2⟩ := Prs.cells hu
  clear hv hu
  by_cases hn : l.length = m.length
  · have HN := Lib.hid hn
    have hn1 : ((l.length : Int) != (m.length : Int)) = false := by simp [hn]
    have hn2 : ((l.length : Int) == (m.length : Int)) = true := by simp [hn]
    clear hn
    go_enter Tryd.func15, Tryd.ntmps15
    go_wp2
    go_loopw [5, 13] (fun _ i wr => ∃ k : Nat, k ≤ l.length ∧ i = .int .i64 k ∧ (∃ n, wr = w.drewN n) ∧ Hid (∀ j (h1 : j < l.length) (h2 : j < m.length), j < k → (l[j] == m[j]) = true)) (fun _ i _ => l.length - (intOf i).toNat)
    case atStart => exact ⟨0, Nat.zero_le _, rfl, ⟨0, rfl⟩, fun j _ _ hj => absurd hj (Nat.not_lt_zero _)⟩
    case round =>
      obtain ⟨k, hk, rfl, ⟨n, rfl⟩, HE⟩ := hrel
      by_cases hlt : k < l.length
      · have hlt2 : k < m.length := by have := HN.out; omega
        obtain ⟨hc1, hc2⟩ := hcells k hlt
        obtain ⟨hd1, hd2⟩ := hcells2 k hlt2
        obtain rfl := hp (by omega)
        obtain rfl := hp2 (by omega)
        clear hp hp2 hcells hcells2
        cases he : l[k] == m[k] with
        | true =>
          have HX : Hid ((l[k] == m[k]) = true) := he
          have hN : ∀ w : World, (binOp .neq 33 (.agg #[.string l[k].1, .string l[k].2]) (.agg #[.string m[k].1, .string m[k].2])).run Tryd.prog w = .ok (.bool false) w := fun w => by
            rw [neq_pair, eq_of_beq he]; simp
          clear he
          go_wp2
          go_quiet (fail)
          go_wp2
          go_roundw
          case rel =>
            refine ⟨k + 1, by omega, by go_num, ⟨n + nq, rfl⟩, fun j h1 h2 hj => ?_⟩
            by_cases e : j = k
            · subst e; exact HX.out
            · exact HE.out j h1 h2 (by omega)
          case measure => simp [intOf]; omega
        | false =>
          have HX : Hid ((l == m) = false) := eq_at hlt hlt2 he
          have hN : ∀ w : World, (binOp .neq 33 (.agg #[.string l[k].1, .string l[k].2]) (.agg #[.string m[k].1, .string m[k].2])).run Tryd.prog w = .ok (.bool true) w := fun w => by
            rw [neq_pair, pair_ne (by simpa using he)]; rfl
          clear he
          go_wp2
          go_quiet (fail)
          go_wp2
          go_ret
          exact ⟨ret_bool HX.out.symm, ⟨n + nq, by first | rw [World.drewN_drewN] | rfl⟩⟩
      · have HX : Hid ((l == m) = true) := eq_all HN.out fun j h1 h2 => HE.out j h1 h2 (by omega)
        go_wp2
        go_ret
        exact ⟨ret_bool HX.out.symm, ⟨n, rfl⟩⟩
  · have HX : Hid ((l == m) = false) := eq_len hn
    have hn1 : ((l.length : Int) != (m.length : Int)) = true := by simp; omega
    have hn2 : ((l.length : Int) == (m.length : Int)) = false := by simp; omega
    clear hn
    go_enter Tryd.func15, Tryd.ntmps15
    go_wp2
    go_ret
    exact ⟨ret_bool HX.out.symm, ⟨0, rfl⟩⟩
end Go.Proofs.YtfbieagkhbmgjaaDoor
