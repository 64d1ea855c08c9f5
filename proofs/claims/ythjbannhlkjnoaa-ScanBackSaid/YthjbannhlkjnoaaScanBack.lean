/-
  cloisterlaw.ScanBack: a text's tokens put together are read as the same tokens: the call returns true.
-/
import Derived.Test.YthjbannhlkjnoaaScanP
import Derived.Test.YthjbannhlkjnoaaScanG
import Derived.Deep.QuietTactic
import Derived.BigQuiet
namespace Go.Proofs.Ythjbannhlkjnoaa
open Go.RowKit
set_option linter.unusedVariables false
set_option linter.unusedSimpArgs false

theorem pfx_calls (s p : Txt) (h : Lib.hasPrefix s.data.toList p.data.toList = true) (w : World) :
    Calls Try.prog 9 #[.string s, .string p] w fun e w' => e = .returned (.bool true) ∧ w' = w :=
  (Try.strings_HasPrefix s p w).mono fun e w' ⟨he, hw⟩ => ⟨by rw [he, h], hw⟩

set_option maxHeartbeats 1000000 in
theorem backF_calls (k a a' : Int) (t : Txt) (w : World) :
    Calls Try.prog 12 #[.agg #[.int .i64 k, .int .i64 a, .string t], .agg #[.int .i64 k, .int .i64 a', .string t]] w fun e w' => e = .returned (.bool true) ∧ Below w.heap.size w w' := by
  obtain ⟨W2, eW⟩ : ∃ W2, (w.alloc (.cells #[.int .i64 k, .int .i64 a, .string t] 30)).alloc (.cells #[.int .i64 k, .int .i64 a', .string t] 30) = W2 := ⟨_, rfl⟩
  obtain ⟨z2, hW, m1, m2⟩ := boxes2 eW
  have h10 := m1 0
  have h12 := m1 2
  have h20 := m2 0
  have h22 := m2 2
  simp only [List.getElem?_toArray, List.getElem?_cons_zero, List.getElem?_cons_succ] at h10 h12 h20 h22
  have HW := Lib.hid hW
  clear m1 m2 hW z2
  go_enter Try.func12, Try.ntmps12
  go_wp2
  go_ret
  exact ⟨rfl, HW.out⟩

set_option maxHeartbeats 1000000 in
theorem eqBack_calls (l m : List Tok) (hlm : m.map (fun x => (x.1, x.2.2)) = l.map (fun x => (x.1, x.2.2))) (v u : Value) (w : World) (hv : Toks w l v) (hu : Toks w m u) :
    Calls Try.prog 11 #[v, u, .func (.func 12) #[] #[]] w fun e w' => e = .returned (.bool true) ∧ Below w.heap.size w w' := by
  have hlen : m.length = l.length := by have := congrArg List.length hlm; simpa using this
  have hat : ∀ k (h1 : k < l.length) (h2 : k < m.length), m[k].1 = l[k].1 ∧ m[k].2.2 = l[k].2.2 := fun k h1 h2 => by
    have h3 : (m.map (fun x => (x.1, x.2.2)))[k]? = (l.map (fun x => (x.1, x.2.2)))[k]? := by rw [hlm]
    simp [h1, h2] at h3
    exact h3
  obtain ⟨b, o, c, p, rfl, hlc, hc, hp, hcells⟩ := hv.cells
  obtain ⟨b2, o2, c2, p2, rfl, hlc2, hc2, hp2, hcells2⟩ := hu.cells
  rw [hlen] at hlc2 hp2 ⊢
  have eg : ∀ args w, (callFunc 12 args).run Try.prog w = .ok (.enter 12 args) w := enters_at Try.func12 (by kernel_rfl) rfl
  have HL := Lib.hid hlen
  have HA := Lib.hid hat
  have HC2 := Lib.hid hcells2
  clear hv hu hlm hlen hat hcells2
  have hn1 : ((l.length : Int) != (l.length : Int)) = false := by simp
  have hn2 : ((l.length : Int) == (l.length : Int)) = true := by simp
  go_enter Try.func11, Try.ntmps11
  go_wp2
  go_loopw [7, 8, 9, 17] (fun _ _ _ i wr => ∃ k : Nat, k ≤ l.length ∧ i = .int .i64 k ∧ Below w.heap.size w wr) (fun _ _ _ i _ => l.length - (intOf i).toNat)
  case atStart => exact ⟨0, Nat.zero_le _, rfl, Below.refl _ _⟩
  case round =>
    obtain ⟨k, hk, rfl, hbr⟩ := hrel
    by_cases hlt : k < l.length
    · have hltm : k < m.length := by rw [HL.out]; exact hlt
      obtain ⟨g1, g2, g3⟩ := hcells k hlt
      obtain ⟨g4, g5, g6⟩ := HC2.out k hltm
      rw [(HA.out k hlt hltm).1] at g4
      rw [(HA.out k hlt hltm).2] at g6
      obtain rfl := hp (by omega)
      obtain rfl := hp2 (by omega)
      clear hp hp2 hcells
      generalize m[k].2.1 = a' at *
      clear hltm
      have HG4 := Lib.hid (cell_lt g4)
      have a1 : wr.cell? ⟨b, o + k * 3, none⟩ = some (.int .i64 l[k].1) := (hbr.cell (cell_lt g1)).trans g1
      have a2 : wr.cell? ⟨b, o + k * 3 + 1, none⟩ = some (.int .i64 l[k].2.1) := (hbr.cell (cell_lt g2)).trans g2
      have a3 : wr.cell? ⟨b, o + k * 3 + 2, none⟩ = some (.string l[k].2.2) := (hbr.cell (cell_lt g3)).trans g3
      obtain ⟨W1, eW⟩ : ∃ W1, wr.alloc (.cells #[.int .i64 l[k].1, .int .i64 l[k].2.1, .string l[k].2.2] 30) = W1 := ⟨_, rfl⟩
      obtain ⟨z1, hW1, m1⟩ := boxes1 eW
      have hb1 : Below w.heap.size w W1 := hbr.trans (hW1.mono hbr.size)
      have a4 : W1.cell? ⟨b2, o2 + k * 3, none⟩ = some (.int .i64 l[k].1) := (hb1.cell (cell_lt g4)).trans g4
      have a5 : W1.cell? ⟨b2, o2 + k * 3 + 1, none⟩ = some (.int .i64 a') := (hb1.cell (cell_lt g5)).trans g5
      have a6 : W1.cell? ⟨b2, o2 + k * 3 + 2, none⟩ = some (.string l[k].2.2) := (hb1.cell (cell_lt g6)).trans g6
      obtain ⟨W2, eW2⟩ : ∃ W2, W1.alloc (.cells #[.int .i64 l[k].1, .int .i64 a', .string l[k].2.2] 30) = W2 := ⟨_, rfl⟩
      obtain ⟨z2, hW2, m2⟩ := boxes1 eW2
      have r1 := m1 0
      have r2 := m1 1
      have r3 := m1 2
      have r4 := m2 0
      have r5 := m2 1
      have r6 := m2 2
      simp only [List.getElem?_toArray, List.getElem?_cons_zero, List.getElem?_cons_succ] at r1 r2 r3 r4 r5 r6
      have r1' : W2.cell? ⟨wr.heap.size, 0, none⟩ = _ := (hW2.cell (cell_lt r1)).trans r1
      have r2' : W2.cell? ⟨wr.heap.size, 1, none⟩ = _ := (hW2.cell (cell_lt r2)).trans r2
      have r3' : W2.cell? ⟨wr.heap.size, 2, none⟩ = _ := (hW2.cell (cell_lt r3)).trans r3
      have HB2 := Lib.hid (hb1.trans (hW2.mono hb1.size))
      clear r1 r2 r3 m1 m2 hW1 hW2 z1 z2 hb1 hbr g1 g2 g3 g4 g5 g6
      go_wp2_with (fail)
      refine (backF_calls _ _ _ _ _).mono ?_
      rintro e w3 ⟨rfl, hb3⟩
      have HB3 := Lib.hid (HB2.out.trans (hb3.mono HB2.out.size))
      clear hb3
      go_wp2
      go_roundw
      case rel => exact ⟨k + 1, by omega, by go_num, HB3.out⟩
      case measure => simp [intOf]; omega
    · clear hp hp2 hcells
      go_wp2
      go_ret
      exact ⟨rfl, hbr⟩

/-- Tokens stay where a fault's two cells are written. -/
theorem toks_fault {w : World} {M : List Tok} {v : Value} {g : Nat} (h : Toks w M v) (hj : ∀ j, w.cell? ⟨g, 2 + j, none⟩ = none) (x y : Value) : Toks ((w.setCell ⟨g, 0, none⟩ x).setCell ⟨g, 1, none⟩ y) M v := by
  obtain ⟨p, c, e, h1, h2, h3⟩ := h
  refine ⟨p, c, e, h1, h2, ?_⟩
  rcases h3 with rfl | ⟨b, o, hp, h3⟩
  · exact Or.inl rfl
  · refine Or.inr ⟨b, o, hp, fun i hi => ?_⟩
    obtain ⟨vs, g1, g2, g3⟩ := h3 i hi
    have hne : b ≠ g := fun e => by
      subst e
      obtain ⟨us, us', e1, e2, ⟨us2, us3, e4, e5, e6⟩⟩ := g1
      have e2' : us = [.int .i64 M[i].1] := e2
      have e5' : us2 = [.int .i64 M[i].2.1] := e5
      have e6' : us3 = [.string M[i].2.2] := e6
      subst e2' e5' e6' e4 e1
      have h := g3 2 _ rfl
      have h2' : w.cell? ⟨b, o + i * 3 + 2, none⟩ = some (.string M[i].2.2) := h
      rw [show o + i * 3 + 2 = 2 + (o + i * 3) by omega, hj] at h2'
      simp at h2'
    refine ⟨vs, g1, g2, fun j x hx => ?_⟩
    exact (World.cell?_setCell_other _ _ _ _ (by simp [Addr.add, hne])).trans ((World.cell?_setCell_other _ _ _ _ (by simp [Addr.add, hne])).trans (g3 j x hx))

set_option maxHeartbeats 2000000 in
set_option maxRecDepth 100000 in
theorem scanBack_calls (s : Txt) (w : World) (hs : s.size ≤ 9223372036854775807) :
    Calls Try.prog 3 #[.string s] w fun e w' => e = .returned (.bool true) ∧ Below w.heap.size w w' := by
  go_enter Try.func3, Try.ntmps3
  go_wp2_with (fail)
  refine (scan_calls s _).mono ?_
  rintro e w1 ⟨y, rfl, hy, hb1⟩
  obtain ⟨L, c, a, hr⟩ : ∃ L c a, scanOf s = (L, c, a) := ⟨_, _, _, rfl⟩
  rw [hr] at hy ⊢
  have HY := Lib.hid hy
  obtain ⟨b, o, cp, p, rfl, hlc, hcm, hp, hcells⟩ := hy.cells
  have HC := Lib.hid hcells
  have HP := Lib.hid hp
  have HB1 := Lib.hid hb1
  have HR := Lib.hid hr
  clear hy hb1 hr hcells hp
  obtain ⟨W2, eW2⟩ : ∃ W2, w1.alloc (.cells #[.int .i64 c, .int .i64 a] 25) = W2 := ⟨_, rfl⟩
  obtain ⟨z2, hW2, m2⟩ := boxes1 eW2
  have f0 := m2 0
  have f1 := m2 1
  simp only [List.getElem?_toArray, List.getElem?_cons_zero, List.getElem?_cons_succ] at f0 f1
  have F1 := Lib.hid f1
  have FJ : Hid (∀ j, W2.cell? ⟨w1.heap.size, 2 + j, none⟩ = none) := fun j => (m2 (2 + j)).trans (by rw [Array.getElem?_eq_none]; simp)
  have FZ : Hid (∀ j, W2.frozen? ⟨w1.heap.size, j, none⟩ = false) := fun j => by rw [← eW2]; exact World.frozen?_alloc_at _ _ _ _ rfl
  clear f1
  have HW2 := Lib.hid hW2
  clear m2 hW2 z2
  go_wp2_with (fail)
  refine (scanned_calls _).mono ?_
  rintro e w3 ⟨rfl, hb3⟩
  have f3 : w3.cell? ⟨w1.heap.size, 0, none⟩ = some (.int .i64 c) := (hb3.cell (cell_lt f0)).trans f0
  have HB23 := Lib.hid hb3
  have hlt2 : Hid (w1.heap.size < W2.heap.size) := cell_lt f0
  have HB13 : Hid (Below w1.heap.size w1 w3) := HW2.out.trans (hb3.mono HW2.out.size)
  have HB03 : Hid (Below w.heap.size w w3) := HB1.out.trans (HB13.out.mono HB1.out.size)
  clear hb3 f0
  by_cases hc : c = 0
  · subst hc
    obtain rfl := scanOf_zero HR.out
    have HST := Lib.hid (scanOf_stands HR.out)
    have HJN := Lib.hid (back_join HR.out)
    have HLAW : Hid ((joinS L).size ≤ 4000 → _) := fun h => back_law HR.out h
    go_wp2
    go_loopw [2, 6, 25] (fun _ _ i wr => ∃ k : Nat, k ≤ L.length ∧ i = .int .i64 k ∧ Below w3.heap.size w3 wr) (fun _ _ i _ => L.length - (intOf i).toNat)
    case atStart => exact ⟨0, Nat.zero_le _, rfl, Below.refl _ _⟩
    case round =>
      obtain ⟨k, hk, rfl, hbr⟩ := hrel
      have HBR := Lib.hid hbr
      clear hbr
      by_cases hlt : k < L.length
      · obtain ⟨g1, g2, g3⟩ := HC.out k hlt
        obtain rfl := HP.out (by omega)
        obtain ⟨hz1, hz2, hz3, hz4⟩ := stands_size (HST.out.2.2 _ (List.getElem_mem hlt))
        obtain ⟨q, hq⟩ : ∃ q : Nat, L[k].2.1 = q := ⟨L[k].2.1.toNat, by omega⟩
        have hqs : q ≤ s.size := by omega
        rw [hq] at hz4 g2
        have HPX : Hid (Lib.hasPrefix (s.extract q s.size).data.toList L[k].2.2.data.toList = true) := by
          have h1 := sign_eq s L[k].2.2 q
          have h2 : (s.extract q s.size).data.toList = (s.data.toList.drop q).take (s.size - q) := bytesOf_extract s q s.size
          unfold Hid
          rw [h2, h1]
          exact hz4
        have t1 : decide ((q : Int) < 0) = false := by simp
        have t2 : decide (s.size < q) = false := by simp; omega
        have HB1R := Lib.hid (HB13.out.trans (HBR.out.mono HB13.out.size))
        have r1 : wr.cell? ⟨b, o + k * 3, none⟩ = some (.int .i64 L[k].1) := (HB1R.out.cell (cell_lt g1)).trans g1
        have r2 : wr.cell? ⟨b, o + k * 3 + 1, none⟩ = some (.int .i64 (q : Int)) := (HB1R.out.cell (cell_lt g2)).trans g2
        have r3 : wr.cell? ⟨b, o + k * 3 + 2, none⟩ = some (.string L[k].2.2) := (HB1R.out.cell (cell_lt g3)).trans g3
        obtain ⟨W5, eW5⟩ : ∃ W5, wr.alloc (.cells #[.int .i64 L[k].1, .int .i64 (q : Int), .string L[k].2.2] 30) = W5 := ⟨_, rfl⟩
        obtain ⟨z5, hW5, m5⟩ := boxes1 eW5
        have s1 := m5 1
        have s2 := m5 2
        simp only [List.getElem?_toArray, List.getElem?_cons_zero, List.getElem?_cons_succ] at s1 s2
        have HB5 := Lib.hid (HBR.out.trans (hW5.mono HBR.out.size))
        clear hW5 m5 z5 g1 g2 g3 hq hz1 hz2 hz3 hz4
        go_wp2
        go_quiet ((go_at_call 9; exact Calls.quiet_of_same (pfx_calls _ _ HPX.out _)))
        go_wp2
        go_roundw
        case rel => exact ⟨k + 1, by omega, by go_num, below_drewN HB5.out _⟩
        case measure => simp [intOf]; omega
      · have HB1R := Lib.hid (HB13.out.trans (HBR.out.mono HB13.out.size))
        have HB2R := Lib.hid (HB23.out.trans (HBR.out.mono HB23.out.size))
        have f4 : wr.cell? ⟨w1.heap.size, 0, none⟩ = some (.int .i64 0) := (HBR.out.cell (cell_lt f3)).trans f3
        clear f3
        go_wp2_with (fail)
        refine (join_tok_calls L _ _ (HY.out.stays (keeps_of_below HB1R.out))).mono ?_
        rintro e w6 ⟨rfl, hb6⟩
        rw [HJN.out.1]
        have f6 : w6.cell? ⟨w1.heap.size, 0, none⟩ = some (.int .i64 0) := (hb6.cell (cell_lt f4)).trans f4
        have HB16 := Lib.hid (HB1R.out.trans (hb6.mono HB1R.out.size))
        have HB26 := Lib.hid (HB2R.out.trans (hb6.mono HB2R.out.size))
        clear f4 hb6
        by_cases hz : (joinS L).size ≤ 4000
        · have hz' : ((joinS L).size : Int) ≤ 4000 := by omega
          have hzz : decide (4000 < ((joinS L).size : Int)) = false := by simp; omega
          obtain ⟨M, hM1, hM2⟩ := HLAW.out hz
          have HM1 := Lib.hid hM1
          have HM2 := Lib.hid hM2
          clear hM1 hM2
          go_wp2_with (fail)
          refine (scan_calls (joinS L) _).mono ?_
          rintro e w7 ⟨y2, rfl, hy2, hb7⟩
          rw [HM1.out] at hy2 ⊢
          have HY2 := Lib.hid hy2
          obtain ⟨b2, o2, cp2, p2, rfl, _⟩ := hy2.cells
          have hb27 : Below W2.heap.size W2 w7 := HB26.out.trans (hb7.mono HB26.out.size)
          have g0 : w7.cell? ⟨w1.heap.size, 0, none⟩ = some (.int .i64 0) := (hb7.cell (cell_lt f6)).trans f6
          have g1 : w7.cell? ⟨w1.heap.size, 1, none⟩ = some (.int .i64 0) := (hb27.cell (p := ⟨w1.heap.size, 1, none⟩) hlt2.out).trans F1.out
          have g2 : ∀ j, w7.frozen? ⟨w1.heap.size, j, none⟩ = false := fun j => (hb27.frozen (p := ⟨w1.heap.size, j, none⟩) hlt2.out).trans (FZ.out j)
          obtain ⟨W8, eW8⟩ : ∃ W8, (w7.setCell ⟨w1.heap.size, 0, none⟩ (.int .i64 0)).setCell ⟨w1.heap.size, 1, none⟩ (.int .i64 0) = W8 := ⟨_, rfl⟩
          have g3 : W8.cell? ⟨w1.heap.size, 0, none⟩ = some (.int .i64 0) := by
            rw [← eW8]
            exact (World.cell?_setCell_other _ _ _ _ (by simp)).trans (World.cell?_setCell_same _ _ _ g0)
          have HB18 : Hid (Below w1.heap.size w1 W8) := by
            rw [← eW8]
            exact ((HB16.out.trans (hb7.mono HB16.out.size)).setCell (Nat.le_refl _) _).setCell (Nat.le_refl _) _
          have HT2 : Hid (Toks W8 M (.slice p2 M.length cp2)) := by
            rw [← eW8]
            exact toks_fault HY2.out (fun j => (hb27.cell (p := ⟨w1.heap.size, 2 + j, none⟩) hlt2.out).trans (FJ.out j)) _ _
          clear hy2 hb7 hb27 f6
          go_wp2_with (fail)
          refine (eqBack_calls L M HM2.out _ _ _ (HY.out.stays (keeps_of_below HB18.out)) HT2.out).mono ?_
          rintro e w9 ⟨rfl, hb9⟩
          have HB19 : Hid (Below w1.heap.size w1 w9) := HB18.out.trans (hb9.mono HB18.out.size)
          clear hb9
          go_wp2
          go_ret
          exact ⟨rfl, HB1.out.trans (HB19.out.mono HB1.out.size)⟩
        · have hz' : 4000 < ((joinS L).size : Int) := by omega
          go_wp2
          go_ret
          exact ⟨rfl, HB1.out.trans (HB16.out.mono HB1.out.size)⟩
  · have q1 : (c != 0) = true := by simpa using hc
    have q2 : (c == 0) = false := by simpa using hc
    clear hc
    go_wp2_with (fail)
    refine (scanned_calls _).mono ?_
    rintro e w5 ⟨rfl, hb5⟩
    go_wp2
    go_ret
    exact ⟨rfl, HB03.out.trans (hb5.mono HB03.out.size)⟩
end Go.Proofs.Ythjbannhlkjnoaa
