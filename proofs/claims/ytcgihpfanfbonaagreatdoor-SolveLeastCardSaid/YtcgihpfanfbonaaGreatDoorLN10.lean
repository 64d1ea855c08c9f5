/-
  The closure of NormalOf's sort.Slice: policies behind two keys, compared.
-/
import Derived.Test.YtcgihpfanfbonaaGreatDoorLN06
import Derived.BigRegion
import Derived.RegionTactic
import Derived.Deep.Cut
namespace Go.Proofs.YtcgihpfanfbonaaGreatDoor
open Go.RowKit Go.Maps
set_option linter.unusedVariables false
set_option linter.unusedSimpArgs false

set_option maxHeartbeats 16000000 in
set_option maxRecDepth 100000 in
theorem lessN_calls (P : List Pol) (S : Nat → Prop) (p x : Pol) (i j b5 b6 M kb ko kc n cl : Nat) (D : DataW Value) (w : World)
    (h5 : w.cell? ⟨b5, 0, none⟩ = some (.map (some M))) (h6 : w.cell? ⟨b6, 0, none⟩ = some (.slice (some ⟨kb, ko, none⟩) n kc)) (hi : i < n) (hj : j < n) (hn : n < 4611686018427387904)
    (ci : w.cell? ⟨kb, ko + i, none⟩ = some (.string (keyT p))) (cj : w.cell? ⟨kb, ko + j, none⟩ = some (.string (keyT x)))
    (hM : w.ownsMap Tryz.prog 9 heldElem M cl D) (hD : Stored S w D P) (hp : p ∈ P) (hx : x ∈ P) (kp : okTxt (keyT p)) (kx : okTxt (keyT x)) :
    Calls Tryz.prog 47 (#[.int .i64 i, .int .i64 j] ++ #[.pointer (some ⟨b5, 0, none⟩), .pointer (some ⟨b6, 0, none⟩)]) w fun e w' => e = .returned (.bool (decide (cmpPol p x < 0))) ∧ Below w.heap.size w w' := by
  have hii : (i : Int) < (n : Int) := by omega
  have hji : (j : Int) < (n : Int) := by omega
  have lk1 : ∃ v1, Strs w p.2 v1 ∧ ∀ W, Below w.heap.size w W → (Instr.lookup 79 (.map (some M)) (.string (keyT p)) false).run Tryz.prog W = .ok (.agg #[.string p.1, v1]) W := by
    obtain ⟨v, h1, h2⟩ := hD.at_ p hp
    refine ⟨v, h2.strs, fun W hW => ?_⟩
    obtain ⟨u, ps, hrun, hu⟩ := (owns_belowV (B := 0) hM hW).lookup (t := 79) (e := 37) law_str Tryz.underlying79 (zero_pol W) (zd := .held zeroPol) (zp := []) rfl (key_str kp)
    rw [h1] at hu
    rw [← heldElem_inv hu]
    exact hrun
  have lk2 : ∃ v1, Strs w x.2 v1 ∧ ∀ W, Below w.heap.size w W → (Instr.lookup 79 (.map (some M)) (.string (keyT x)) false).run Tryz.prog W = .ok (.agg #[.string x.1, v1]) W := by
    obtain ⟨v, h1, h2⟩ := hD.at_ x hx
    refine ⟨v, h2.strs, fun W hW => ?_⟩
    obtain ⟨u, ps, hrun, hu⟩ := (owns_belowV (B := 0) hM hW).lookup (t := 79) (e := 37) law_str Tryz.underlying79 (zero_pol W) (zd := .held zeroPol) (zp := []) rfl (key_str kx)
    rw [h1] at hu
    rw [← heldElem_inv hu]
    exact hrun
  obtain ⟨v1, s1, r1⟩ := lk1
  obtain ⟨v2, s2, r2⟩ := lk2
  obtain ⟨bp, op, cp, ap, rfl, _⟩ := s1.cells
  obtain ⟨bx, ox, cx, ax, rfl, _⟩ := s2.cells
  have HS1 := Lib.hid s1
  have HS2 := Lib.hid s2
  have d5 : ∀ W, Below w.heap.size w W → W.cell? ⟨b5, 0, none⟩ = some (.map (some M)) := fun W h => (h.cell (cell_lt h5)).trans h5
  have d6 : ∀ W, Below w.heap.size w W → W.cell? ⟨b6, 0, none⟩ = some (.slice (some ⟨kb, ko, none⟩) n kc) := fun W h => (h.cell (cell_lt h6)).trans h6
  have di : ∀ W, Below w.heap.size w W → W.cell? ⟨kb, ko + i, none⟩ = some (.string (keyT p)) := fun W h => (h.cell (cell_lt ci)).trans ci
  have dj : ∀ W, Below w.heap.size w W → W.cell? ⟨kb, ko + j, none⟩ = some (.string (keyT x)) := fun W h => (h.cell (cell_lt cj)).trans cj
  have hb0 : Below w.heap.size w w.drew := ⟨rfl, rfl, rfl, Nat.le_refl _, fun _ _ => rfl⟩
  have hb1 : ∀ o, Below w.heap.size w (w.alloc o).drew := fun o => ((Below.refl _ _).alloc (Nat.le_refl _) o).drew
  have hb2 : ∀ o o', Below w.heap.size w ((w.alloc o).alloc o').drew := fun o o' => (((Below.refl _ _).alloc (Nat.le_refl _) o).alloc ((Below.refl _ _).alloc (Nat.le_refl _) o).size o').drew
  have a0 := d5 _ hb0
  have a1 := fun o => d5 _ (hb1 o)
  have a2 := fun o o' => d5 _ (hb2 o o')
  have c0 := d6 _ hb0
  have c1 := fun o => d6 _ (hb1 o)
  have c2 := fun o o' => d6 _ (hb2 o o')
  have e0 := di _ hb0
  have e1 := fun o => di _ (hb1 o)
  have e2 := fun o o' => di _ (hb2 o o')
  have f0 := dj _ hb0
  have f1 := fun o => dj _ (hb1 o)
  have f2 := fun o o' => dj _ (hb2 o o')
  have g0 := r1 _ hb0
  have g1 := fun o => r1 _ (hb1 o)
  have g2 := fun o o' => r1 _ (hb2 o o')
  have k0 := r2 _ hb0
  have k1 := fun o => r2 _ (hb1 o)
  have k2 := fun o o' => r2 _ (hb2 o o')
  have HB2 := Lib.hid hb2
  clear hM hD hp hx s1 s2 h5 h6 ci cj d5 d6 di dj r1 r2 hb0 hb1 hb2
  go_enter Tryz.func47, Tryz.ntmps47
  go_upto_region 1 with fail
  go_cut [7, 8] from 9 (fun s7 s8 wc => ∃ a b : Nat, s7 = .pointer (some ⟨a, 0, none⟩) ∧ s8 = .pointer (some ⟨b, 0, none⟩) ∧ Hid (Below w.heap.size w wc) ∧ Hid (wc.cell? ⟨a, 0, none⟩ = some (.string p.1)) ∧ Hid (wc.cell? ⟨a, 1, none⟩ = some (.slice ap p.2.length cp)) ∧
    Hid (wc.cell? ⟨b, 0, none⟩ = some (.string x.1)) ∧ Hid (wc.cell? ⟨b, 1, none⟩ = some (.slice ax x.2.length cx)))
  case first =>
    rename_i J K1 hJ hK
    go_region
    all_goals (
      obtain ⟨_, _, m1, m2⟩ := boxes2 (rfl : (w.alloc (.cells #[.string p.1, .slice ap p.2.length cp] 37)).alloc (.cells #[.string x.1, .slice ax x.2.length cx] 37) = _)
      obtain ⟨_, _, n1, n2⟩ := boxes2 (rfl : (w.alloc (.cells #[.string x.1, .slice ax x.2.length cx] 37)).alloc (.cells #[.string p.1, .slice ap p.2.length cp] 37) = _)
      first
        | refine hK _ _ ?_
        | skip
      refine Met.intro ?_
      refine hJ _ _ ?_
      first
        | ((repeat apply Exists.intro)
           refine ⟨?rel, rfl⟩
           case rel =>
             first
               | exact ⟨_, _, rfl, rfl, HB2.out _ _, m1 0, m1 1, m2 0, m2 1⟩
               | exact ⟨_, _, rfl, rfl, HB2.out _ _, n2 0, n2 1, n1 0, n1 1⟩))
  case rest =>
    obtain ⟨a, b, rfl, rfl, HB, HA0, HA1, HX0, HX1⟩ := hcut
    clear a0 a1 a2 c0 c1 c2 e0 e1 e2 f0 f1 f2 g0 g1 g2 k0 k1 k2 HB2
    have hA0 := HA0.out
    have hA1 := HA1.out
    have hX0 := HX0.out
    have hX1 := HX1.out
    by_cases he : p.1 = x.1
    · have hx' : (p.1.toList == x.1.toList) = true := bytes_eq.2 he
      have HE : Hid (cmpPol p x = lexC cmpT p.2 x.2) := by unfold Hid cmpPol pairC; rw [if_pos ((cmpT_tot.zero _ _).2 he)]
      clear he
      go_wp2_with (fail)
      refine (cmpStrs_calls _ _ _ _ wc (HS1.out.stays (keeps_of_below HB.out)) (HS2.out.stays (keeps_of_below HB.out))).mono ?_
      rintro e w5 ⟨rfl, rfl⟩
      go_wp2
      go_ret
      exact ⟨by rw [HE.out]; rfl, HB.out⟩
    · have hx' : (p.1.toList == x.1.toList) = false := text_ne he
      have HE : Hid (Op.bytesLess p.1.toList x.1.toList = decide (cmpPol p x < 0)) := by unfold Hid cmpPol pairC; rw [if_neg (fun h => he ((cmpT_tot.zero _ _).1 h)), less_lt]
      clear he
      go_wp2
      go_ret
      exact ⟨by rw [← HE.out]; rfl, HB.out⟩
end Go.Proofs.YtcgihpfanfbonaaGreatDoor
