/-
  cmp.Compare and slices.Compare over texts; label.compare over policies.
-/
import Derived.Test.YtjjlkckhbhgmoaaNormP
import Derived.Test.YtjjlkckhbhgmoaaShelf
import Derived.Test.YtjjlkckhbhgmoaaEqS
import Derived.Laws.Cover1
import Derived.Sort.Walk0
import Derived.Sort.Grow
namespace Go.Proofs.Ytjjlkckhbhgmoaa
open Go.RowKit
set_option linter.unusedVariables false
set_option linter.unusedSimpArgs false

theorem nanStr_calls (a : Txt) (w : World) : Calls Try.prog 111 #[.string a] w fun e w' => e = .returned (.bool false) ∧ w = w' := by
  have n1 : (a.toList != a.toList) = false := by simp
  go_enter Try.func111, Try.ntmps111
  go_wp2
  go_ret
  exact ⟨rfl, rfl⟩
theorem less_lt (a b : Txt) : Op.bytesLess a.toList b.toList = decide (cmpT a b < 0) := by
  rw [Go.Proofs.bytesLess_eq, ByteArray.toList_eq, ByteArray.toList_eq]
  unfold cmpT
  rw [decide_eq_decide, compareBytes_lt]
  rfl
theorem cmpT_vals (a b : Txt) : cmpT a b = -1 ∨ cmpT a b = 0 ∨ cmpT a b = 1 := by
  unfold cmpT
  generalize bytesOf a = x
  generalize bytesOf b = y
  induction x generalizing y with
  | nil => cases y <;> simp [Lib.compareBytes]
  | cons c x ih =>
    cases y with
    | nil => simp [Lib.compareBytes]
    | cons d y =>
      unfold Lib.compareBytes
      split
      · simp
      · split
        · simp
        · exact ih y
theorem cmpStr_calls (a b : Txt) (w : World) :
    Calls Try.prog 92 #[.string a, .string b] w fun e w' => e = .returned (.int .i64 (cmpT a b)) ∧ w = w' := by
  have hl := less_lt a b
  rcases cmpT_vals a b with h | h | h
  · have hl' : Op.bytesLess a.toList b.toList = true := by rw [hl, h]; rfl
    rw [h]
    clear hl h
    go_enter Try.func92, Try.ntmps92
    go_wp2_with (go_at_call 111; refine (nanStr_calls _ _).mono ?_; rintro e w' ⟨rfl, rfl⟩)
    go_ret
    exact ⟨rfl, rfl⟩
  · have hl' : Op.bytesLess a.toList b.toList = false := by rw [hl, h]; rfl
    have he : (a.toList == b.toList) = true := by
      rw [(cmpT_tot.zero a b).1 h]; simp
    rw [h]
    clear hl h
    go_enter Try.func92, Try.ntmps92
    go_wp2_with (go_at_call 111; refine (nanStr_calls _ _).mono ?_; rintro e w' ⟨rfl, rfl⟩)
    go_ret
    exact ⟨rfl, rfl⟩
  · have hl' : Op.bytesLess a.toList b.toList = false := by rw [hl, h]; rfl
    have he : (a.toList == b.toList) = false := by
      apply text_ne
      intro e
      rw [(cmpT_tot.zero a b).2 e] at h
      omega
    rw [h]
    clear hl h
    go_enter Try.func92, Try.ntmps92
    go_wp2_with (go_at_call 111; refine (nanStr_calls _ _).mono ?_; rintro e w' ⟨rfl, rfl⟩)
    go_ret
    exact ⟨rfl, rfl⟩

/-- What is left from a place on decides. -/
theorem lexC_skip {l m : List Txt} {k : Nat} (h1 : k < l.length) (h2 : k < m.length) (h : cmpT l[k] m[k] = 0) : lexC cmpT (l.drop k) (m.drop k) = lexC cmpT (l.drop (k + 1)) (m.drop (k + 1)) := by
  rw [List.drop_eq_getElem_cons h1, List.drop_eq_getElem_cons h2, lexC, if_pos h]
theorem lexC_part {l m : List Txt} {k : Nat} (h1 : k < l.length) (h2 : k < m.length) (h : cmpT l[k] m[k] ≠ 0) : lexC cmpT (l.drop k) (m.drop k) = cmpT l[k] m[k] := by
  rw [List.drop_eq_getElem_cons h1, List.drop_eq_getElem_cons h2, lexC, if_neg h]
theorem lexC_longer {l m : List Txt} {k : Nat} (h1 : k < l.length) (h2 : m.length ≤ k) : lexC cmpT (l.drop k) (m.drop k) = 1 := by
  rw [List.drop_eq_getElem_cons h1, List.drop_of_length_le h2, lexC]
theorem lexC_end {l m : List Txt} {k : Nat} (h1 : l.length ≤ k) : lexC cmpT (l.drop k) (m.drop k) = if k < m.length then -1 else 0 := by
  rw [List.drop_of_length_le h1]
  split
  · rename_i h
    rw [List.drop_eq_getElem_cons h, lexC]
  · rw [List.drop_of_length_le (by omega), lexC]

set_option maxHeartbeats 1000000 in
theorem cmpStrs_calls (l m : List Txt) (v u : Value) (w : World) (hv : Strs w l v) (hu : Strs w m u) :
    Calls Try.prog 71 #[v, u] w fun e w' => e = .returned (.int .i64 (lexC cmpT l m)) ∧ w = w' := by
  obtain ⟨b, o, c, p, rfl, hlc, hc, hp, hcells⟩ := hv.cells
  obtain ⟨b2, o2, c2, p2, rfl, hlc2, hc2, hp2, hcells2⟩ := hu.cells
  clear hv hu
  go_enter Try.func71, Try.ntmps71
  go_wp2
  go_loop [5, 6, 7, 8, 11] (fun _ _ _ _ i => ∃ k : Nat, k ≤ l.length ∧ k ≤ m.length ∧ i = .int .i64 k ∧ Hid (lexC cmpT (l.drop k) (m.drop k) = lexC cmpT l m)) (fun _ _ _ _ i => l.length - (intOf i).toNat)
  case atStart => exact ⟨0, Nat.zero_le _, Nat.zero_le _, rfl, rfl⟩
  case round =>
    obtain ⟨k, hk, hkm, rfl, HE⟩ := hrel
    by_cases hlt : k < l.length
    · by_cases hltm : k < m.length
      · have g1 := hcells k hlt
        have g2 := hcells2 k hltm
        obtain rfl := hp (by omega)
        obtain rfl := hp2 (by omega)
        have h1 : (k : Int) < (l.length : Int) := by omega
        have h2 : (k : Int) < (m.length : Int) := by omega
        by_cases hz : cmpT l[k] m[k] = 0
        · have HX : Hid (lexC cmpT (l.drop (k + 1)) (m.drop (k + 1)) = lexC cmpT l m) := by rw [← HE.out]; exact (lexC_skip hlt hltm hz).symm
          have HZ := Lib.hid hz
          clear hp hp2 hcells hcells2 hz
          go_wp2_with (fail)
          refine (cmpStr_calls _ _ _).mono ?_
          rintro e w1 ⟨rfl, rfl⟩
          rw [HZ.out]
          go_wp2
          go_round
          case rel => exact ⟨k + 1, by omega, by omega, by go_num, HX⟩
          case measure => simp [intOf]; omega
        · have HX : Hid (cmpT l[k] m[k] = lexC cmpT l m) := by rw [← HE.out]; exact (lexC_part hlt hltm hz).symm
          have q1 : (cmpT l[k] m[k] != 0) = true := by simpa using hz
          have q2 : (cmpT l[k] m[k] == 0) = false := by simpa using hz
          clear hp hp2 hcells hcells2 hz
          go_wp2_with (fail)
          refine (cmpStr_calls _ _ _).mono ?_
          rintro e w1 ⟨rfl, rfl⟩
          generalize cmpT l[k] m[k] = z at *
          go_wp2
          go_ret
          exact ⟨by rw [HX.out]; rfl, rfl⟩
      · have HX : Hid (lexC cmpT l m = 1) := by rw [← HE.out]; exact lexC_longer hlt (by omega)
        obtain rfl : k = m.length := by omega
        have g1 := hcells m.length hlt
        obtain rfl := hp (by omega)
        clear hp hp2 hcells hcells2 hltm
        go_wp2
        go_ret
        exact ⟨by rw [HX.out]; rfl, rfl⟩
    · have HX : Hid (lexC cmpT l m = if k < m.length then -1 else 0) := by rw [← HE.out]; exact lexC_end (by omega)
      obtain rfl : k = l.length := by omega
      clear hp hp2 hcells hcells2 hlt
      by_cases hm : l.length < m.length
      · have HX' : Hid (lexC cmpT l m = -1) := by unfold Hid; rw [HX.out, if_pos hm]
        go_wp2
        go_ret
        exact ⟨by rw [HX'.out]; rfl, rfl⟩
      · have HX' : Hid (lexC cmpT l m = 0) := by unfold Hid; rw [HX.out, if_neg hm]
        go_wp2
        go_ret
        exact ⟨by rw [HX'.out]; rfl, rfl⟩

set_option maxHeartbeats 1000000 in
theorem compare_calls (p x : Pol) (vp vx : Value) (w : World) (hp : Strs w p.2 vp) (hx : Strs w x.2 vx) :
    Calls Try.prog 46 #[.agg #[.string p.1, vp], .agg #[.string x.1, vx]] w fun e w' => e = .returned (.int .i64 (cmpPol p x)) ∧ ∃ os, w' = Go.Sort.grow w os := by
  obtain ⟨b, o, c, a, rfl, _⟩ := hp.cells
  obtain ⟨b2, o2, c2, a2, rfl, _⟩ := hx.cells
  obtain ⟨W2, eW⟩ : ∃ W2, (w.alloc (.cells #[.string p.1, .slice a p.2.length c] 58)).alloc (.cells #[.string x.1, .slice a2 x.2.length c2] 58) = W2 := ⟨_, rfl⟩
  obtain ⟨z2, hW, m1, m2⟩ := boxes2 eW
  have h10 := m1 0
  have h11 := m1 1
  have h20 := m2 0
  have h21 := m2 1
  simp only [List.getElem?_toArray, List.getElem?_cons_zero, List.getElem?_cons_succ] at h10 h11 h20 h21
  have HG : Hid (∃ os, W2 = Go.Sort.grow w os) := ⟨_, by rw [← eW, Go.Sort.alloc_eq_grow, Go.Sort.alloc_eq_grow, Go.Sort.grow_grow]⟩
  have HP := Lib.hid (hp.stays (keeps_of_below hW))
  have HX := Lib.hid (hx.stays (keeps_of_below hW))
  clear m1 m2 hW z2 hp hx
  have hC : Lib.compareBytes p.1.data.toList x.1.data.toList = cmpT p.1 x.1 := rfl
  by_cases hz : cmpT p.1 x.1 = 0
  · have HE : Hid (cmpPol p x = lexC cmpT p.2 x.2) := by unfold Hid cmpPol pairC; rw [if_pos hz]
    have HC := Lib.hid (hC.trans hz)
    clear hC hz
    go_enter Try.func46, Try.ntmps46
    go_wp2_with (fail)
    refine (Try.strings_Compare _ _ _).mono ?_
    rintro e w' ⟨rfl, rfl⟩
    rw [HC.out]
    go_wp2_with (fail)
    refine (cmpStrs_calls p.2 x.2 _ _ _ HP.out HX.out).mono ?_
    rintro e w' ⟨rfl, rfl⟩
    go_wp2
    go_ret
    exact ⟨by rw [HE.out]; rfl, HG.out⟩
  · have HE : Hid (cmpPol p x = cmpT p.1 x.1) := by unfold Hid cmpPol pairC; rw [if_neg hz]
    have HC := Lib.hid hC
    have q1 : (cmpT p.1 x.1 != 0) = true := by simpa using hz
    have q2 : (cmpT p.1 x.1 == 0) = false := by simpa using hz
    clear hC hz
    go_enter Try.func46, Try.ntmps46
    go_wp2_with (fail)
    refine (Try.strings_Compare _ _ _).mono ?_
    rintro e w' ⟨rfl, rfl⟩
    rw [HC.out]
    go_wp2
    go_ret
    exact ⟨by rw [HE.out]; rfl, HG.out⟩
end Go.Proofs.Ytjjlkckhbhgmoaa
