/-
  label.Flows and label.Reads.
-/
import Derived.Test.YtjjlkckhbhgmoaaGreatLabD
namespace Go.Proofs.YtjjlkckhbhgmoaaGreat
open Go.RowKit Go.Maps
set_option linter.unusedVariables false
set_option linter.unusedSimpArgs false

def flowsE (l : List Txt) (acts : List (Txt × Txt)) (a b : Lab) : Int := if labE l acts a ≠ 0 then labE l acts a else labE l acts b
def flowsR (l : List Txt) (acts : List (Txt × Txt)) (a b : Lab) : Bool := flowsE l acts a b == 0 && flowsB (mayB l acts) a b

theorem labE_check {l : List Txt} {acts : List (Txt × Txt)} {x : Lab} (h : labE l acts x = 0) : checkC l acts = 0 ∧ labErr l x = 0 := by
  unfold labE at h
  split at h
  · omega
  · exact ⟨by omega, h⟩

set_option maxHeartbeats 1000000 in
set_option maxRecDepth 100000 in
theorem flows_calls (l : List Txt) (acts : List (Txt × Txt)) (a b : Lab) (v u va vb : Value) (w : World) (hv : Strs w l v) (hu : Prs w acts u) (ha : Lbl w a va) (hb : Lbl w b vb) (hl : okList okTxt l) (hao : okLab a) (hbo : okLab b) :
    Calls Tryz.prog 10 #[v, u, va, vb] w fun e w' => e = .returned (.tuple #[.bool (flowsR l acts a b), .int .i64 (flowsE l acts a b)]) ∧ Below w.heap.size w w' := by
  obtain ⟨b0, o0, c0, p0, rfl, _⟩ := hv.cells
  obtain ⟨b1, o1, c1, p1, rfl, _⟩ := hu.cells
  obtain ⟨b2, o2, c2, p2, rfl, _⟩ := ha.cells
  obtain ⟨b3, o3, c3, p3, rfl, _⟩ := hb.cells
  have i0 : ∀ x y (w : World), (Instr.index 51 (.agg #[x, y]) (.int .i64 0)).run Tryz.prog w = .ok x w := fun _ _ _ => by kernel_rfl
  have i1 : ∀ x y (w : World), (Instr.index 51 (.agg #[x, y]) (.int .i64 1)).run Tryz.prog w = .ok y w := fun _ _ _ => by kernel_rfl
  go_enter Tryz.func10, Tryz.ntmps10
  go_wp2
  go_loopw [11, 12, 16] (fun _ _ i wr => ∃ k : Nat, k ≤ 2 ∧ i = .int .i64 k ∧ Below w.heap.size w wr ∧ Hid ((0 < k → labE l acts a = 0) ∧ (1 < k → labE l acts b = 0))) (fun _ _ i _ => 2 - (intOf i).toNat)
  case atStart => exact ⟨0, by omega, rfl, Below.refl _ _, fun h => absurd h (by omega), fun h => absurd h (by omega)⟩
  case round =>
    obtain ⟨k, hk, rfl, hbr, HK⟩ := hrel
    match k, hk, HK with
    | 0, _, HK =>
      by_cases he : labE l acts a = 0
      · have HE := Lib.hid he
        go_wp2_with (fail)
        refine (labCheck_calls l acts a _ _ _ _ (hv.stays (keeps_of_below hbr)) (hu.stays (keeps_of_below hbr)) (ha.stays (keeps_of_below hbr))).mono ?_
        rintro e w1 ⟨rfl, hb1⟩
        rw [he]
        clear he
        go_wp2
        go_roundw
        case rel => exact ⟨1, by omega, by go_num, hbr.trans (hb1.mono hbr.size), fun _ => HE.out, fun h => absurd h (by omega)⟩
        case measure => simp [intOf]
      · have HE : Hid (flowsE l acts a b = labE l acts a ∧ flowsR l acts a b = false) := by
          have e : flowsE l acts a b = labE l acts a := by unfold flowsE; rw [if_pos he]
          exact ⟨e, by unfold flowsR; rw [e]; simp [he]⟩
        have hq : (labE l acts a != 0) = true := by simpa using he
        have hq2 : (labE l acts a == 0) = false := by simpa using he
        clear he
        go_wp2_with (fail)
        refine (labCheck_calls l acts a _ _ _ _ (hv.stays (keeps_of_below hbr)) (hu.stays (keeps_of_below hbr)) (ha.stays (keeps_of_below hbr))).mono ?_
        rintro e w1 ⟨rfl, hb1⟩
        go_wp2
        go_ret2
        exact ⟨by rw [HE.out.1, HE.out.2]; rfl, hbr.trans (hb1.mono hbr.size)⟩
    | 1, _, HK =>
      have he0 : labE l acts a = 0 := HK.out.1 (by omega)
      have HE0 := Lib.hid he0
      clear he0
      by_cases he : labE l acts b = 0
      · have HE := Lib.hid he
        go_wp2_with (fail)
        refine (labCheck_calls l acts b _ _ _ _ (hv.stays (keeps_of_below hbr)) (hu.stays (keeps_of_below hbr)) (hb.stays (keeps_of_below hbr))).mono ?_
        rintro e w1 ⟨rfl, hb1⟩
        rw [he]
        clear he
        go_wp2
        go_roundw
        case rel => exact ⟨2, by omega, by go_num, hbr.trans (hb1.mono hbr.size), fun _ => HE0.out, fun _ => HE.out⟩
        case measure => simp [intOf]
      · have HE : Hid (flowsE l acts a b = labE l acts b ∧ flowsR l acts a b = false) := by
          have e : flowsE l acts a b = labE l acts b := by unfold flowsE; rw [if_neg (by rw [HE0.out]; simp)]
          exact ⟨e, by unfold flowsR; rw [e]; simp [he]⟩
        have hq : (labE l acts b != 0) = true := by simpa using he
        have hq2 : (labE l acts b == 0) = false := by simpa using he
        clear he
        go_wp2_with (fail)
        refine (labCheck_calls l acts b _ _ _ _ (hv.stays (keeps_of_below hbr)) (hu.stays (keeps_of_below hbr)) (hb.stays (keeps_of_below hbr))).mono ?_
        rintro e w1 ⟨rfl, hb1⟩
        go_wp2
        go_ret2
        exact ⟨by rw [HE.out.1, HE.out.2]; rfl, hbr.trans (hb1.mono hbr.size)⟩
    | 2, _, HK =>
      have he0 : labE l acts a = 0 := HK.out.1 (by omega)
      have he1 : labE l acts b = 0 := HK.out.2 (by omega)
      have hc := (labE_check he0).1
      have HC := Lib.hid hc
      have HE : Hid (flowsE l acts a b = 0 ∧ flowsR l acts a b = flowsB (mayB l acts) a b) := by
        have e : flowsE l acts a b = 0 := by unfold flowsE; rw [if_neg (by rw [he0]; simp), he1]
        exact ⟨e, by unfold flowsR; rw [e]; rfl⟩
      clear he0 he1 hc i0 i1
      go_wp2_with (fail)
      refine (among_calls l acts _ _ _ (hv.stays (keeps_of_below hbr)) (hu.stays (keeps_of_below hbr)) HC.out hl).mono ?_
      rintro e w1 ⟨r, rfl, hp1, hb1⟩
      have hbw : Below w.heap.size w w1 := hbr.trans (hb1.mono hbr.size)
      go_wp2_with (fail)
      refine (wflows_calls (mayB l acts) _ r a b _ _ _ hp1 hao hbo (ha.stays (keeps_of_below hbw)) (hb.stays (keeps_of_below hbw))).mono ?_
      rintro e w2 ⟨rfl, hb2⟩
      go_wp2
      go_ret2
      exact ⟨by rw [HE.out.1, HE.out.2]; rfl, hbw.trans (hb2.mono hbw.size)⟩

/-- Those whom a label lets read, of the first ones. -/
def readsTo (q : Txt → Txt → Bool) (l : List Txt) (x : Lab) (k : Nat) : List Txt := (l.take k).filter fun s => !anyBy x fun p => !letsB q p s
theorem readsTo_hit {q : Txt → Txt → Bool} {l : List Txt} {x : Lab} {k : Nat} (hk : k < l.length) (h : (anyBy x fun p => !letsB q p l[k]) = false) : readsTo q l x (k + 1) = readsTo q l x k ++ [l[k]] := by
  unfold readsTo; rw [List.take_succ_eq_append_getElem hk, List.filter_append]; simp [h]
theorem readsTo_miss {q : Txt → Txt → Bool} {l : List Txt} {x : Lab} {k : Nat} (hk : k < l.length) (h : (anyBy x fun p => !letsB q p l[k]) = true) : readsTo q l x (k + 1) = readsTo q l x k := by
  unfold readsTo; rw [List.take_succ_eq_append_getElem hk, List.filter_append]; simp [h]
theorem readsTo_le (q : Txt → Txt → Bool) (l : List Txt) (x : Lab) (k : Nat) : (readsTo q l x k).length ≤ k := by
  unfold readsTo; exact Nat.le_trans (List.length_filter_le _ _) (List.length_take_le _ _)
def readsL (q : Txt → Txt → Bool) (l : List Txt) (x : Lab) : List Txt := l.filter fun s => !anyBy x fun p => !letsB q p s
def readsR (l : List Txt) (acts : List (Txt × Txt)) (x : Lab) : List Txt := if labE l acts x = 0 then readsL (mayB l acts) l x else []

end Go.Proofs.YtjjlkckhbhgmoaaGreat
