/-
  slices.Equal over texts.
-/
import Derived.Test.YtfbieagkhbmgjaaDoorEq0
import Derived.Test.YtfbieagkhbmgjaaDoorCalm
namespace Go.Proofs.YtfbieagkhbmgjaaDoor
open Go.RowKit
set_option linter.unusedVariables false
set_option linter.unusedSimpArgs false

theorem text_ne {x y : Txt} (h : ¬ x = y) : (x.toList == y.toList) = false := by
  cases e : (x.toList == y.toList) with
  | false => rfl
  | true => exact absurd (bytes_eq.1 e) h
set_option maxHeartbeats 400000 in
theorem equalS_calls (l m : List Txt) (v u : Value) (w : World) (hv : Strs w l v) (hu : Strs w m u) :
    Calls Tryd.prog 20 #[v, u] w fun e w' => e = .returned (.bool (l == m)) ∧ ∃ n, w' = w.drewN n := by
  obtain ⟨b, o, c, p, rfl, hlc, hc, hp, hcells⟩ := One.cells hv
  obtain ⟨b2, o2, c2, p2, rfl, hlc2, hc2, hp2, hcells2⟩ := One.cells hu
  clear hv hu
  by_cases hn : l.length = m.length
  · have HN := Lib.hid hn
    have hn1 : ((l.length : Int) != (m.length : Int)) = false := by simp [hn]
    have hn2 : ((l.length : Int) == (m.length : Int)) = true := by simp [hn]
    clear hn
    go_enter Tryd.func20, Tryd.ntmps20
    go_wp2
    go_loopw [5, 13] (fun _ i wr => ∃ k : Nat, k ≤ l.length ∧ i = .int .i64 k ∧ (∃ n, wr = w.drewN n) ∧ Hid (∀ j (h1 : j < l.length) (h2 : j < m.length), j < k → (l[j] == m[j]) = true)) (fun _ i _ => l.length - (intOf i).toNat)
    case atStart => exact ⟨0, Nat.zero_le _, rfl, ⟨0, rfl⟩, fun j _ _ hj => absurd hj (Nat.not_lt_zero _)⟩
    case round =>
      obtain ⟨k, hk, rfl, ⟨n, rfl⟩, HE⟩ := hrel
      by_cases hlt : k < l.length
      · have hlt2 : k < m.length := by have := HN.out; omega
        have hcell := hcells k hlt
        have hcell2 := hcells2 k hlt2
        obtain rfl := hp (by omega)
        obtain rfl := hp2 (by omega)
        clear hp hp2 hcells hcells2
        cases he : l[k] == m[k] with
        | true =>
          have HX : Hid ((l[k] == m[k]) = true) := he
          have he' : (l[k].toList == m[k].toList) = true := bytes_eq.2 (by simpa using he)
          clear he
          go_wp2
          go_quiet (fail)
          go_wp2
          go_roundw
          case rel =>
            refine ⟨k + 1, by omega, by go_num, ⟨n + nq, rfl⟩, fun j h1 h2 hj => ?_⟩
            by_cases e : j = k
            · subst e; exact HX.out
            · exact HE.out j h1 h2 (by omega)
          case measure => simp [intOf]; omega
        | false =>
          have HX : Hid ((l == m) = false) := eq_at hlt hlt2 he
          have he' : (l[k].toList == m[k].toList) = false := text_ne (by simpa using he)
          clear he
          go_wp2
          go_quiet (fail)
          go_wp2
          go_ret
          exact ⟨ret_bool HX.out.symm, ⟨n + nq, by first | rw [World.drewN_drewN] | rfl⟩⟩
      · have HX : Hid ((l == m) = true) := eq_all HN.out fun j h1 h2 => HE.out j h1 h2 (by omega)
        go_wp2
        go_ret
        exact ⟨ret_bool HX.out.symm, ⟨n, rfl⟩⟩
  · have HX : Hid ((l == m) = false) := eq_len hn
    have hn1 : ((l.length : Int) != (m.length : Int)) = true := by simp; omega
    have hn2 : ((l.length : Int) == (m.length : Int)) = false := by simp; omega
    clear hn
    go_enter Tryd.func20, Tryd.ntmps20
    go_wp2
    go_ret
    exact ⟨ret_bool HX.out.symm, ⟨0, rfl⟩⟩

end Go.Proofs.YtfbieagkhbmgjaaDoor
