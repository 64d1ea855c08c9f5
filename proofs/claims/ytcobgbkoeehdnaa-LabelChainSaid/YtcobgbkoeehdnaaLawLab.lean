/-
  cloisterlaw.LabelPrint and LabelChain: the calls return true.
-/
import Derived.Test.YtcobgbkoeehdnaaLabelled
import Derived.Test.YtcobgbkoeehdnaaLabP
namespace Go.Proofs.Ytcobgbkoeehdnaa
open Go.RowKit Go.Maps
set_option linter.unusedVariables false
set_option linter.unusedSimpArgs false

set_option maxHeartbeats 400000 in
theorem labelPrint_calls (x : Lab) (u : Value) (w : World) (hu : Lbl w x u) :
    Calls Try.prog 6 #[u] w fun e w' => e = .returned (.bool true) ∧ Below w.heap.size w w' := by
  obtain ⟨b, o, c, p, rfl, hlc1, hcm1, hp, hcells⟩ := hu.cells
  clear hp hcells
  cases hx : longL x with
  | true =>
    have e1 : printE x = 2 := by unfold printE; rw [hx]; rfl
    have e2 : printS x = ByteArray.empty := by unfold printS; rw [hx]; rfl
    go_enter Try.func6, Try.ntmps6
    go_wp2_with (fail)
    refine (print_calls x _ _ hu).mono ?_
    rintro e w1 ⟨rfl, hb1⟩
    rw [e1, e2]
    clear e1 e2
    go_wp2_with (fail)
    refine (labelled_calls _).mono ?_
    rintro e w2 ⟨rfl, hb2⟩
    have hbw2 : Below w.heap.size w w2 := hb1.trans (hb2.mono hb1.size)
    have HB2 := Lib.hid hbw2
    clear hb1 hb2 hbw2
    go_wp2_with (fail)
    refine (longLabel_calls x _ _ (hu.stays (keeps_of_below HB2.out))).mono ?_
    rintro e w3 ⟨rfl, hb3⟩
    rw [hx]
    clear hx
    have hbw3 : Below w.heap.size w w3 := HB2.out.trans (hb3.mono HB2.out.size)
    have HB3 := Lib.hid hbw3
    clear hb3 hbw3
    go_wp2_with (fail)
    refine (labelled_calls _).mono ?_
    rintro e w4 ⟨rfl, hb4⟩
    go_wp2
    go_ret
    exact ⟨rfl, HB3.out.trans (hb4.mono HB3.out.size)⟩
  | false =>
    have e1 : printE x = 0 := by unfold printE; rw [hx]; rfl
    have e2 : printS x = printT x := by unfold printS; rw [hx]; rfl
    have HX := Lib.hid hx
    go_enter Try.func6, Try.ntmps6
    go_wp2_with (fail)
    refine (print_calls x _ _ hu).mono ?_
    rintro e w1 ⟨rfl, hb1⟩
    rw [e1, e2]
    clear e1 e2
    go_wp2_with (fail)
    refine (labelled_calls _).mono ?_
    rintro e w2 ⟨rfl, hb2⟩
    have hbw2 : Below w.heap.size w w2 := hb1.trans (hb2.mono hb1.size)
    have HB2 := Lib.hid hbw2
    clear hb1 hb2 hbw2
    go_wp2_with (fail)
    refine (longLabel_calls x _ _ (hu.stays (keeps_of_below HB2.out))).mono ?_
    rintro e w3 ⟨rfl, hb3⟩
    rw [hx]
    clear hx
    have hbw3 : Below w.heap.size w w3 := HB2.out.trans (hb3.mono HB2.out.size)
    have HB3 := Lib.hid hbw3
    clear hb3 hbw3
    go_wp2_with (fail)
    refine (labelText_calls x _ _ (hu.stays (keeps_of_below HB3.out)) HX.out).mono ?_
    rintro e w4 ⟨rfl, hb4⟩
    go_wp2
    go_ret
    exact ⟨rfl, HB3.out.trans (hb4.mono HB3.out.size)⟩

set_option maxHeartbeats 1000000 in
set_option maxRecDepth 100000 in
theorem labelChain_calls (l : List Txt) (acts : List (Txt × Txt)) (a b c : Lab) (v u va vb vc : Value) (w : World) (hv : Strs w l v) (hu : Prs w acts u) (ha : Lbl w a va) (hb : Lbl w b vb) (hc : Lbl w c vc)
    (hl : okList okTxt l) (hao : okLab a) (hbo : okLab b) (hco : okLab c) :
    Calls Try.prog 7 #[v, u, va, vb, vc] w fun e w' => e = .returned (.bool true) ∧ Below w.heap.size w w' := by
  obtain ⟨b0, o0, c0, p0, rfl, _⟩ := hv.cells
  obtain ⟨b1, o1, c1, p1, rfl, _⟩ := hu.cells
  obtain ⟨b2, o2, c2, p2, rfl, _⟩ := ha.cells
  obtain ⟨b3, o3, c3, p3, rfl, _⟩ := hb.cells
  obtain ⟨b4, o4, c4, p4, rfl, _⟩ := hc.cells
  go_enter Try.func7, Try.ntmps7
  go_wp2_with (fail)
  refine (flows_calls l acts a b _ _ _ _ _ hv hu ha hb hl hao hbo).mono ?_
  rintro e w1 ⟨rfl, hb1⟩
  have HB1 := Lib.hid hb1
  clear hb1
  go_wp2_with (fail)
  refine (flows_calls l acts b c _ _ _ _ _ (hv.stays (keeps_of_below HB1.out)) (hu.stays (keeps_of_below HB1.out)) (hb.stays (keeps_of_below HB1.out)) (hc.stays (keeps_of_below HB1.out)) hl hbo hco).mono ?_
  rintro e w2 ⟨rfl, hb2⟩
  have HB2 := Lib.hid (HB1.out.trans (hb2.mono HB1.out.size))
  clear hb2
  go_wp2_with (fail)
  refine (flows_calls l acts a c _ _ _ _ _ (hv.stays (keeps_of_below HB2.out)) (hu.stays (keeps_of_below HB2.out)) (ha.stays (keeps_of_below HB2.out)) (hc.stays (keeps_of_below HB2.out)) hl hao hco).mono ?_
  rintro e w3 ⟨rfl, hb3⟩
  have HB3 := Lib.hid (HB2.out.trans (hb3.mono HB2.out.size))
  clear hb3
  go_wp2_with (fail)
  refine (flows_calls l acts a a _ _ _ _ _ (hv.stays (keeps_of_below HB3.out)) (hu.stays (keeps_of_below HB3.out)) (ha.stays (keeps_of_below HB3.out)) (ha.stays (keeps_of_below HB3.out)) hl hao hao).mono ?_
  rintro e w4 ⟨rfl, hb4⟩
  have HB4 := Lib.hid (HB3.out.trans (hb4.mono HB3.out.size))
  clear hb4
  go_wp2_with (fail)
  refine (labelled_calls _).mono ?_
  rintro e w5 ⟨rfl, hb5⟩
  have HB5 := Lib.hid (HB4.out.trans (hb5.mono HB4.out.size))
  clear hb5
  have HLAW : Hid (flowsE l acts a b = 0 → flowsE l acts b c = 0 → flowsE l acts a c = 0 → flowsE l acts a a = 0 → flowsR l acts a a = true ∧ (flowsR l acts a b = true → flowsR l acts b c = true → flowsR l acts a c = true)) := fun h1 h2 h3 h4 => chain_law h1 h2 h3 h4
  generalize flowsE l acts a b = e1 at *
  generalize flowsE l acts b c = e2 at *
  generalize flowsE l acts a c = e3 at *
  generalize flowsE l acts a a = e4 at *
  generalize flowsR l acts a b = f1 at *
  generalize flowsR l acts b c = f2 at *
  generalize flowsR l acts a c = f3 at *
  generalize flowsR l acts a a = f4 at *
  have bad : ∀ e : Int, e ≠ 0 → (e != 0) = true ∧ (e == 0) = false := fun e h => by simp [h]
  have BAD := Lib.hid bad
  clear bad
  by_cases h1 : e1 = 0
  · subst h1
    by_cases h2 : e2 = 0
    · subst h2
      by_cases h3 : e3 = 0
      · subst h3
        by_cases h4 : e4 = 0
        · subst h4
          obtain ⟨g1, g2⟩ := HLAW.out rfl rfl rfl rfl
          clear HLAW
          subst g1
          cases f1 with
          | false =>
            clear g2
            go_wp2
            go_ret
            exact ⟨rfl, HB5.out⟩
          | true =>
            cases f2 with
            | false =>
              clear g2
              go_wp2
              go_ret
              exact ⟨rfl, HB5.out⟩
            | true =>
              have g3 := g2 rfl rfl
              clear g2
              subst g3
              go_wp2
              go_ret
              exact ⟨rfl, HB5.out⟩
        · obtain ⟨q1, q2⟩ := BAD.out _ h4
          clear h4
          go_wp2_with (fail)
          refine (labelled_calls _).mono ?_
          rintro e w6 ⟨rfl, hb6⟩
          go_wp2
          go_ret
          exact ⟨rfl, HB5.out.trans (hb6.mono HB5.out.size)⟩
      · obtain ⟨q1, q2⟩ := BAD.out _ h3
        clear h3
        go_wp2_with (fail)
        refine (labelled_calls _).mono ?_
        rintro e w6 ⟨rfl, hb6⟩
        go_wp2
        go_ret
        exact ⟨rfl, HB5.out.trans (hb6.mono HB5.out.size)⟩
    · obtain ⟨q1, q2⟩ := BAD.out _ h2
      clear h2
      go_wp2_with (fail)
      refine (labelled_calls _).mono ?_
      rintro e w6 ⟨rfl, hb6⟩
      go_wp2
      go_ret
      exact ⟨rfl, HB5.out.trans (hb6.mono HB5.out.size)⟩
  · obtain ⟨q1, q2⟩ := BAD.out _ h1
    clear h1
    go_wp2_with (fail)
    refine (labelled_calls _).mono ?_
    rintro e w6 ⟨rfl, hb6⟩
    go_wp2
    go_ret
    exact ⟨rfl, HB5.out.trans (hb6.mono HB5.out.size)⟩
end Go.Proofs.Ytcobgbkoeehdnaa
