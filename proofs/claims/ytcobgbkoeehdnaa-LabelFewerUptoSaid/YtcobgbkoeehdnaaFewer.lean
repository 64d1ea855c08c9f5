/-
  cloisterlaw.LabelFewer: where something may go fewer read, whoever else acts for whom: the call returns true.
-/
import Derived.Test.YtcobgbkoeehdnaaLabelled
import Derived.Test.YtcobgbkoeehdnaaLabP
import Derived.Test.YtcobgbkoeehdnaaCat
namespace Go.Proofs.Ytcobgbkoeehdnaa
open Go.RowKit Go.Maps
set_option linter.unusedVariables false
set_option linter.unusedSimpArgs false

theorem fewer_fn_calls (y : List Txt) (u : Value) (g : Nat) (x : Txt) (w : World) (hc : w.cell? ⟨g, 0, none⟩ = some u) (hu : Strs w y u) :
    Calls Try.prog 30 #[.string x, .pointer (some ⟨g, 0, none⟩)] w fun e w' => e = .returned (.bool (!has y x)) ∧ Below w.heap.size w w' := by
  obtain ⟨b0, o, c, p, rfl, hlc, hcm, hp, hcells⟩ := hu.cells
  clear hp hcells
  go_enter Try.func30, Try.ntmps30
  go_wp2_with (fail)
  refine (contains_calls y x _ _ hu).mono ?_
  rintro e w' ⟨rfl, rfl⟩
  go_wp2
  go_ret
  exact ⟨rfl, Below.refl _ _⟩

set_option maxHeartbeats 1000000 in
set_option maxRecDepth 100000 in
theorem labelFewer_calls (l : List Txt) (acts more : List (Txt × Txt)) (a b : Lab) (v u va vb t : Value) (w : World) (hv : Strs w l v) (hu : Prs w acts u) (ha : Lbl w a va) (hb : Lbl w b vb) (ht : Prs w more t)
    (hl : okList okTxt l) (hao : okLab a) (hbo : okLab b) (hn : acts.length + more.length ≤ 2097152) :
    Calls Try.prog 9 #[v, u, va, vb, t] w fun e w' => e = .returned (.bool true) ∧ Below w.heap.size w w' := by
  obtain ⟨b0, o0, c0, p0, rfl, _⟩ := hv.cells
  obtain ⟨b1, o1, c1, p1, rfl, _⟩ := hu.cells
  obtain ⟨b2, o2, c2, p2, rfl, _⟩ := ha.cells
  obtain ⟨b3, o3, c3, p3, rfl, _⟩ := hb.cells
  obtain ⟨b4, o4, c4, p4, rfl, _⟩ := ht.cells
  have eg : ∀ args w, (callFunc 30 args).run Try.prog w = .ok (.enter 30 args) w := enters_at Try.func30 (by kernel_rfl) rfl
  have HEG := Lib.hid eg
  clear eg
  have bad : ∀ e : Int, e ≠ 0 → (e != 0) = true ∧ (e == 0) = false := fun e h => by simp [h]
  have BAD := Lib.hid bad
  clear bad
  go_enter Try.func9, Try.ntmps9
  go_wp2_with (fail)
  refine (flows_calls l acts a b _ _ _ _ _ hv hu ha hb hl hao hbo).mono ?_
  rintro e w1 ⟨rfl, hb1⟩
  have HB1 := Lib.hid hb1
  clear hb1
  go_wp2_with (fail)
  refine (labelled_calls _).mono ?_
  rintro e w2 ⟨rfl, hb2⟩
  have HB2 := Lib.hid (HB1.out.trans (hb2.mono HB1.out.size))
  clear hb2
  by_cases h1 : flowsE l acts a b = 0
  · cases hf : flowsR l acts a b with
    | false =>
      rw [h1]
      clear h1 hf
      go_wp2_with (fail)
      refine (labelled_calls _).mono ?_
      rintro e w6 ⟨rfl, hb6⟩
      go_wp2
      go_ret
      exact ⟨rfl, HB2.out.trans (hb6.mono HB2.out.size)⟩
    | true =>
      have HERR : Hid (labE l (acts ++ more) a = checkC l (acts ++ more) ∧ labE l (acts ++ more) b = checkC l (acts ++ more) ∧ flowsE l (acts ++ more) a b = checkC l (acts ++ more)) := fewer_errs h1
      have HLAW : Hid (checkC l (acts ++ more) = 0 → flowsR l (acts ++ more) a b = true ∧ anyBy (readsR l (acts ++ more) b) (fun s => !has (readsR l (acts ++ more) a) s) = false) := fun hc => fewer_law h1 hf hc
      rw [h1]
      clear h1 hf
      go_wp2_with (fail)
      have hba : Below w.heap.size w (w2.alloc (.cells #[.slice p1 acts.length c1, .slice p4 more.length c4] 39)) := HB2.out.alloc HB2.out.size _
      refine (concatP_calls acts more _ _ w2.heap.size 0 _ (hu.stays (keeps_of_below hba)) (ht.stays (keeps_of_below hba)) (World.cell?_alloc_mark _ _ _ _ _) (World.cell?_alloc_mark _ _ _ _ _) hn).mono ?_
      rintro e w3 ⟨z, rfl, hz, hb3⟩
      have HB3 := Lib.hid (hba.trans (hb3.mono hba.size))
      clear hba hb3
      generalize acts ++ more = all at *
      have hz0 := hz
      obtain ⟨b5, o5, c5, p5, rfl, _⟩ := hz0.cells
      go_wp2_with (fail)
      refine (reads_calls l all a _ _ _ _ (hv.stays (keeps_of_below HB3.out)) hz (ha.stays (keeps_of_below HB3.out)) hl hao).mono ?_
      rintro e w4 ⟨x, rfl, hx, hb4⟩
      have HX := Lib.hid hx
      obtain ⟨b6, o6, c6, p6, rfl, _⟩ := HX.out.cells
      obtain ⟨W5, eW⟩ : ∃ W5, w4.alloc (.cells #[.slice p6 (readsR l all a).length c6] 38) = W5 := ⟨_, rfl⟩
      obtain ⟨z5, hW5, m5⟩ := boxes1 eW
      have hm5 := m5 0
      simp only [List.getElem?_toArray, List.getElem?_cons_zero] at hm5
      have HM5 := Lib.hid hm5
      have HZ5 := Lib.hid z5
      have HB35 := Lib.hid (hb4.trans (hW5.mono hb4.size))
      have HW5 := Lib.hid hW5
      have HB5 := Lib.hid (HB3.out.trans (HB35.out.mono HB3.out.size))
      have HZZ := Lib.hid hz
      rw [HERR.out.1]
      clear hz hx hb4 hW5 m5 hm5 z5
      go_wp2_with (fail)
      refine (reads_calls l all b _ _ _ _ (hv.stays (keeps_of_below HB5.out)) (HZZ.out.stays (keeps_of_below HB35.out)) (hb.stays (keeps_of_below HB5.out)) hl hbo).mono ?_
      rintro e w6 ⟨y, rfl, hy, hb6⟩
      have HY := Lib.hid hy
      have HB56 := Lib.hid hb6
      have HB6 := Lib.hid (HB5.out.trans (hb6.mono HB5.out.size))
      rw [HERR.out.2.1]
      clear hy hb6
      go_wp2_with (fail)
      refine (flows_calls l all a b _ _ _ _ _ (hv.stays (keeps_of_below HB6.out)) (HZZ.out.stays (keeps_of_below (HB35.out.trans (HB56.out.mono HB35.out.size)))) (ha.stays (keeps_of_below HB6.out)) (hb.stays (keeps_of_below HB6.out)) hl hao hbo).mono ?_
      rintro e w7 ⟨rfl, hb7⟩
      have HB7 := Lib.hid (HB6.out.trans (hb7.mono HB6.out.size))
      have HB67 := Lib.hid hb7
      rw [HERR.out.2.2]
      clear hb7
      by_cases hc : checkC l all = 0
      · obtain ⟨g1, g2⟩ := HLAW.out hc
        have G2 := Lib.hid g2
        rw [hc, g1]
        clear hc g1 g2 HLAW HERR
        have HB57 := Lib.hid (HB56.out.trans (HB67.out.mono HB56.out.size))
        have hxs : w4.heap.size < W5.heap.size := by have := HZ5.out; omega
        have hxs7 : w4.heap.size < w7.heap.size := Nat.lt_of_lt_of_le hxs HB57.out.size
        have hc7 : w7.cell? ⟨w4.heap.size, 0, none⟩ = some (.slice p6 (readsR l all a).length c6) := (HB57.out.cell (p := ⟨w4.heap.size, 0, none⟩) hxs).trans HM5.out
        have HC7 := Lib.hid hc7
        clear hc7
        obtain ⟨b8, o8, c8, p8, rfl, _⟩ := HY.out.cells
        go_wp2_with (fail)
        refine (containsFunc_calls (readsR l all b) _ 30 #[.pointer (some ⟨w4.heap.size, 0, none⟩)] (fun s => !has (readsR l all a) s) _ (HY.out.stays (keeps_of_below HB67.out)) HEG.out ?_).mono ?_
        · intro s _ w8 hb8
          have h48 : Below w4.heap.size w4 w8 := HW5.out.trans ((HB57.out.trans (hb8.mono HB57.out.size)).mono HW5.out.size)
          exact fewer_fn_calls _ _ _ s w8 ((hb8.cell (p := ⟨w4.heap.size, 0, none⟩) hxs7).trans HC7.out) (HX.out.stays (keeps_of_below h48))
        · rintro e w8 ⟨rfl, hb8⟩
          rw [G2.out]
          go_wp2
          go_ret
          exact ⟨rfl, HB7.out.trans (hb8.mono HB7.out.size)⟩
      · obtain ⟨q1, q2⟩ := BAD.out _ hc
        clear hc HLAW HERR
        generalize checkC l all = ec at *
        go_wp2
        go_ret
        exact ⟨rfl, HB7.out⟩
  · obtain ⟨q1, q2⟩ := BAD.out _ h1
    clear h1
    go_wp2_with (fail)
    refine (labelled_calls _).mono ?_
    rintro e w6 ⟨rfl, hb6⟩
    go_wp2
    go_ret
    exact ⟨rfl, HB2.out.trans (hb6.mono HB2.out.size)⟩
end Go.Proofs.Ytcobgbkoeehdnaa
