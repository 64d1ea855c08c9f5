/-
  label.Normal and label.Join.
-/
import Derived.Test.YtjjlkckhbhgmoaaCatL
import Derived.Test.YtjjlkckhbhgmoaaJoinP
namespace Go.Proofs.Ytjjlkckhbhgmoaa
open Go.RowKit Go.Maps
set_option linter.unusedVariables false
set_option linter.unusedSimpArgs false

theorem nilL (w : World) : Lbl w [] (.slice none 0 0) := ⟨none, 0, rfl, by simp, by unfold maxLen; omega, .inl rfl⟩
def normalR (l : List Txt) (acts : List (Txt × Txt)) (x : Lab) : Lab := if labE l acts x = 0 then normL (mayB l acts) x else []
def joinR (l : List Txt) (acts : List (Txt × Txt)) (a b : Lab) : Lab := if flowsE l acts a b = 0 then joinL (mayB l acts) a b else []
theorem okLab_append {a b : Lab} (ha : okLab a) (hb : okLab b) : okLab (a ++ b) := fun p hp => by
  rcases List.mem_append.1 hp with hp | hp
  · exact ha p hp
  · exact hb p hp

set_option maxHeartbeats 1000000 in
set_option maxRecDepth 100000 in
theorem normal_calls (l : List Txt) (acts : List (Txt × Txt)) (x : Lab) (v u t : Value) (w : World) (hv : Strs w l v) (hu : Prs w acts u) (ht : Lbl w x t) (hl : okList okTxt l) (hxo : okLab x) :
    Calls Try.prog 11 #[v, u, t] w fun e w' => ∃ y, e = .returned (.tuple #[y, .int .i64 (labE l acts x)]) ∧ Lbl w' (normalR l acts x) y ∧ Below w.heap.size w w' := by
  have hv0 := hv
  obtain ⟨b0, o0, c0, p0, rfl, _⟩ := hv.cells
  obtain ⟨b1, o1, c1, p1, rfl, _⟩ := hu.cells
  obtain ⟨b2, o2, c2, p2, rfl, _⟩ := ht.cells
  by_cases he : labE l acts x = 0
  · obtain ⟨hc, hq⟩ := labE_check he
    have hz := labErr_zero hq
    have HC := Lib.hid hc
    have HR : Hid (normalR l acts x = normL (mayB l acts) x) := by unfold Hid normalR; rw [if_pos he]
    have HE := Lib.hid he
    have HL := Lib.hid hl
    have HN : Hid (x.length ≤ 1000 ∧ ∀ p ∈ x, p.2.length ≤ 1048576) := ⟨by omega, fun p hp => by have := (hz.2 p hp).1; omega⟩
    clear hc hq hz hl
    go_enter Try.func11, Try.ntmps11
    go_wp2_with (fail)
    refine (labCheck_calls l acts x _ _ _ _ hv0 hu ht).mono ?_
    rintro e w1 ⟨rfl, hb1⟩
    rw [he]
    clear he
    go_wp2_with (fail)
    refine (among_calls l acts _ _ _ (hv0.stays (keeps_of_below hb1)) (hu.stays (keeps_of_below hb1)) HC.out HL.out).mono ?_
    rintro e w2 ⟨r, rfl, hp2, hb2⟩
    have HB2 := Lib.hid (hb1.trans (hb2.mono hb1.size))
    go_wp2_with (fail)
    refine (wnormal_calls (mayB l acts) _ r x _ _ hp2 hxo (ht.stays (keeps_of_below HB2.out)) HN.out.1 HN.out.2).mono ?_
    rintro e w3 ⟨y, rfl, hy, hb3⟩
    have HY := Lib.hid hy
    have HB3 := Lib.hid (HB2.out.trans (hb3.mono HB2.out.size))
    clear hy hb3
    go_wp2
    go_ret2
    exact ⟨_, by rw [HE.out]; rfl, by rw [HR.out]; exact HY.out, HB3.out⟩
  · have hR : normalR l acts x = [] := by unfold normalR; rw [if_neg he]
    rw [hR]
    have hq : (labE l acts x != 0) = true := by simpa using he
    have hq2 : (labE l acts x == 0) = false := by simpa using he
    clear he hR
    go_enter Try.func11, Try.ntmps11
    go_wp2_with (fail)
    refine (labCheck_calls l acts x _ _ _ _ hv0 hu ht).mono ?_
    rintro e w1 ⟨rfl, hb1⟩
    go_wp2
    go_ret2
    exact ⟨_, rfl, nilL _, hb1⟩

set_option maxHeartbeats 2000000 in
set_option maxRecDepth 100000 in
theorem join_lab_calls (l : List Txt) (acts : List (Txt × Txt)) (a b : Lab) (v u va vb : Value) (w : World) (hv : Strs w l v) (hu : Prs w acts u) (ha : Lbl w a va) (hb : Lbl w b vb) (hl : okList okTxt l) (hao : okLab a) (hbo : okLab b) :
    Calls Try.prog 10 #[v, u, va, vb] w fun e w' => ∃ y, e = .returned (.tuple #[y, .int .i64 (flowsE l acts a b)]) ∧ Lbl w' (joinR l acts a b) y ∧ Below w.heap.size w w' := by
  obtain ⟨b0, o0, c0, p0, rfl, _⟩ := hv.cells
  obtain ⟨b1, o1, c1, p1, rfl, _⟩ := hu.cells
  obtain ⟨b2, o2, c2, p2, rfl, _⟩ := ha.cells
  obtain ⟨b3, o3, c3, p3, rfl, _⟩ := hb.cells
  have i0 : ∀ x y (w : World), (Instr.index 68 (.agg #[x, y]) (.int .i64 0)).run Try.prog w = .ok x w := fun _ _ _ => by kernel_rfl
  have i1 : ∀ x y (w : World), (Instr.index 68 (.agg #[x, y]) (.int .i64 1)).run Try.prog w = .ok y w := fun _ _ _ => by kernel_rfl
  go_enter Try.func10, Try.ntmps10
  go_wp2
  go_loopw [11, 12, 16] (fun _ _ i wr => ∃ k : Nat, k ≤ 2 ∧ i = .int .i64 k ∧ Below w.heap.size w wr ∧ Hid ((0 < k → labE l acts a = 0) ∧ (1 < k → labE l acts b = 0))) (fun _ _ i _ => 2 - (intOf i).toNat)
  case atStart => exact ⟨0, by omega, rfl, Below.refl _ _, fun h => absurd h (by omega), fun h => absurd h (by omega)⟩
  case round =>
    obtain ⟨k, hk, rfl, hbr, HK⟩ := hrel
    match k, hk, HK with
    | 0, _, HK =>
      by_cases he : labE l acts a = 0
      · have HE := Lib.hid he
        go_wp2_with (fail)
        refine (labCheck_calls l acts a _ _ _ _ (hv.stays (keeps_of_below hbr)) (hu.stays (keeps_of_below hbr)) (ha.stays (keeps_of_below hbr))).mono ?_
        rintro e w1 ⟨rfl, hb1⟩
        rw [he]
        clear he
        go_wp2
        go_roundw
        case rel => exact ⟨1, by omega, by go_num, hbr.trans (hb1.mono hbr.size), fun _ => HE.out, fun h => absurd h (by omega)⟩
        case measure => simp [intOf]
      · have HE : Hid (flowsE l acts a b = labE l acts a ∧ joinR l acts a b = []) := by
          have e : flowsE l acts a b = labE l acts a := by unfold flowsE; rw [if_pos he]
          exact ⟨e, by unfold joinR; rw [e, if_neg he]⟩
        have hq : (labE l acts a != 0) = true := by simpa using he
        have hq2 : (labE l acts a == 0) = false := by simpa using he
        clear he
        go_wp2_with (fail)
        refine (labCheck_calls l acts a _ _ _ _ (hv.stays (keeps_of_below hbr)) (hu.stays (keeps_of_below hbr)) (ha.stays (keeps_of_below hbr))).mono ?_
        rintro e w1 ⟨rfl, hb1⟩
        go_wp2
        go_ret2
        exact ⟨_, by rw [HE.out.1]; rfl, by rw [HE.out.2]; exact nilL _, hbr.trans (hb1.mono hbr.size)⟩
    | 1, _, HK =>
      have he0 : labE l acts a = 0 := HK.out.1 (by omega)
      have HE0 := Lib.hid he0
      clear he0
      by_cases he : labE l acts b = 0
      · have HE := Lib.hid he
        go_wp2_with (fail)
        refine (labCheck_calls l acts b _ _ _ _ (hv.stays (keeps_of_below hbr)) (hu.stays (keeps_of_below hbr)) (hb.stays (keeps_of_below hbr))).mono ?_
        rintro e w1 ⟨rfl, hb1⟩
        rw [he]
        clear he
        go_wp2
        go_roundw
        case rel => exact ⟨2, by omega, by go_num, hbr.trans (hb1.mono hbr.size), fun _ => HE0.out, fun _ => HE.out⟩
        case measure => simp [intOf]
      · have HE : Hid (flowsE l acts a b = labE l acts b ∧ joinR l acts a b = []) := by
          have e : flowsE l acts a b = labE l acts b := by unfold flowsE; rw [if_neg (by rw [HE0.out]; simp)]
          exact ⟨e, by unfold joinR; rw [e, if_neg he]⟩
        have hq : (labE l acts b != 0) = true := by simpa using he
        have hq2 : (labE l acts b == 0) = false := by simpa using he
        clear he
        go_wp2_with (fail)
        refine (labCheck_calls l acts b _ _ _ _ (hv.stays (keeps_of_below hbr)) (hu.stays (keeps_of_below hbr)) (hb.stays (keeps_of_below hbr))).mono ?_
        rintro e w1 ⟨rfl, hb1⟩
        go_wp2
        go_ret2
        exact ⟨_, by rw [HE.out.1]; rfl, by rw [HE.out.2]; exact nilL _, hbr.trans (hb1.mono hbr.size)⟩
    | 2, _, HK =>
      have he0 : labE l acts a = 0 := HK.out.1 (by omega)
      have he1 : labE l acts b = 0 := HK.out.2 (by omega)
      have hc := (labE_check he0).1
      have hza := labErr_zero (labE_check he0).2
      have hzb := labErr_zero (labE_check he1).2
      have HC := Lib.hid hc
      have HE : Hid (flowsE l acts a b = 0 ∧ joinR l acts a b = joinL (mayB l acts) a b) := by
        have e : flowsE l acts a b = 0 := by unfold flowsE; rw [if_neg (by rw [he0]; simp), he1]
        exact ⟨e, by unfold joinR; rw [if_pos e]⟩
      have HN : Hid ((a ++ b).length ≤ 1000 ∧ ∀ p ∈ a ++ b, p.2.length ≤ 1048576) := ⟨by simp; omega, fun p hp => by
        rcases List.mem_append.1 hp with hp | hp
        · have := (hza.2 p hp).1; omega
        · have := (hzb.2 p hp).1; omega⟩
      have HLE : Hid (a.length + b.length ≤ 2097152) := by unfold Hid; omega
      clear he0 he1 hc i0 i1 hza hzb
      go_wp2_with (fail)
      refine (among_calls l acts _ _ _ (hv.stays (keeps_of_below hbr)) (hu.stays (keeps_of_below hbr)) HC.out hl).mono ?_
      rintro e w1 ⟨r, rfl, hp1, hb1⟩
      have hbw : Below w.heap.size w w1 := hbr.trans (hb1.mono hbr.size)
      obtain ⟨W2, eW2⟩ : ∃ W2, w1.alloc (.cells #[.slice p2 a.length c2, .slice p3 b.length c3] 25) = W2 := ⟨_, rfl⟩
      obtain ⟨z2, hW2, m2⟩ := boxes1 eW2
      have k0 := m2 0
      have k1 := m2 1
      simp only [List.getElem?_toArray, List.getElem?_cons_zero, List.getElem?_cons_succ] at k0 k1
      have HB2 : Hid (Below w.heap.size w W2) := hbw.trans (hW2.mono hbw.size)
      have HP2 := Lib.hid (hp1.below hW2)
      have HCC := Lib.hid (concatL_calls a b _ _ w1.heap.size 0 W2 (ha.stays (keeps_of_below HB2.out)) (hb.stays (keeps_of_below HB2.out)) k0 k1 HLE.out)
      clear m2 hW2 z2 hp1 hbw hb1 hbr
      go_wp2_with (fail)
      refine HCC.out.mono ?_
      rintro e w3 ⟨vc, rfl, hvc, hb3⟩
      have HB3 : Hid (Below w.heap.size w w3) := HB2.out.trans (hb3.mono HB2.out.size)
      have HVC := Lib.hid hvc
      have HP3 := Lib.hid (HP2.out.below hb3)
      clear hvc hb3
      go_wp2_with (fail)
      refine (wnormal_calls (mayB l acts) _ r (a ++ b) _ _ HP3.out (okLab_append hao hbo) HVC.out HN.out.1 HN.out.2).mono ?_
      rintro e w4 ⟨y, rfl, hy, hb4⟩
      have HY := Lib.hid hy
      have HB4 := Lib.hid (HB3.out.trans (hb4.mono HB3.out.size))
      clear hy hb4
      go_wp2
      go_ret2
      exact ⟨_, by rw [HE.out.1]; rfl, by rw [HE.out.2]; exact HY.out, HB4.out⟩
end Go.Proofs.Ytjjlkckhbhgmoaa
