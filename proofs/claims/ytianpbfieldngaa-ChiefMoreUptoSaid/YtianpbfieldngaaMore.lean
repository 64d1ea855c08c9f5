/-
  cloisterlaw.ChiefMore: with pairs more nobody acts for fewer: the call returns true.
-/
import Derived.Test.YtianpbfieldngaaChiefed
import Derived.Test.YtianpbfieldngaaSameP
import Derived.Test.YtianpbfieldngaaSlP3
import Derived.Test.YtianpbfieldngaaFuncs
namespace Go.Proofs.Ytianpbfieldngaa
open Go.RowKit
set_option linter.unusedVariables false
set_option linter.unusedSimpArgs false

theorem forE_zero {l : List Txt} {acts : List (Txt × Txt)} {b : Txt} (h : forE l acts b = 0) : checkC l acts = 0 ∧ has l b = true := by
  unfold forE at h
  split at h
  · omega
  · rename_i h1
    refine ⟨by omega, ?_⟩
    cases e : has l b with
    | true => rfl
    | false => rw [e] at h; simp at h
theorem edge_more {l : List Txt} {acts more : List (Txt × Txt)} {i j : Nat} (h : edgeM l acts i j = true) : edgeM l (acts ++ more) i j = true := by
  rcases edge_iff.1 h with h | ⟨x, hx, h⟩
  · exact edge_iff.2 (.inl h)
  · exact edge_iff.2 (.inr ⟨x, List.mem_append_left _ hx, h⟩)
theorem clos_more {l : List Txt} {acts more : List (Txt × Txt)} {i j : Nat} (h : closM l acts i j = true) : closM l (acts ++ more) i j = true :=
  clos_reach.2 ((clos_reach.1 h).mono fun _ _ e => edge_more e)
theorem act_more {l : List Txt} {acts more : List (Txt × Txt)} {a b : Txt} (h : actM l acts a b = true) : actM l (acts ++ more) a b = true := clos_more h
theorem more_for {l : List Txt} {acts more : List (Txt × Txt)} {b : Txt} (h1 : forE l acts b = 0) (h2 : forE l (acts ++ more) b = 0) :
    anyBy (forR l acts b) (fun s => !has (forR l (acts ++ more) b) s) = false ∧ has (forR l acts b) b = true := by
  unfold forR
  rw [if_pos h1, if_pos h2]
  unfold forL
  constructor
  · unfold anyBy
    rw [List.any_eq_false]
    intro s hs
    rw [List.mem_filter] at hs
    have : has (l.filter fun s => actM l (acts ++ more) s b) s = true := has_iff.2 (List.mem_filter.2 ⟨hs.1, act_more hs.2⟩)
    simp [this]
  · rw [has_iff, List.mem_filter]
    refine ⟨has_iff.1 (forE_zero h1).2, ?_⟩
    exact clos_reach.2 (.refl _)

theorem more_fn_calls (y : List Txt) (u : Value) (g : Nat) (x : Txt) (w : World) (hc : w.cell? ⟨g, 0, none⟩ = some u) (hu : Strs w y u) :
    Calls Try.prog 17 #[.string x, .pointer (some ⟨g, 0, none⟩)] w fun e w' => e = .returned (.bool (!has y x)) ∧ Below w.heap.size w w' := by
  obtain ⟨b0, o, c, p, rfl, hlc, hcm, hp, hcells⟩ := hu.cells
  clear hp hcells
  go_enter Try.func17, Try.ntmps17
  go_wp2_with (fail)
  refine (contains_calls y x _ _ hu).mono ?_
  rintro e w' ⟨rfl, rfl⟩
  go_wp2
  go_ret
  exact ⟨rfl, Below.refl _ _⟩

set_option maxHeartbeats 1000000 in
set_option maxRecDepth 100000 in
theorem more_calls (l : List Txt) (acts more : List (Txt × Txt)) (b : Txt) (v u t : Value) (w : World) (hv : Strs w l v) (hu : Prs w acts u) (ht : Prs w more t) (hn : acts.length + more.length ≤ 2097152) :
    Calls Try.prog 5 #[v, u, t, .string b] w fun e w' => e = .returned (.bool true) ∧ Below w.heap.size w w' := by
  have hv0 := hv
  obtain ⟨b0, o, c, p, rfl, hlc, hcm, hp, hcells⟩ := hv.cells
  clear hp hcells hv
  obtain ⟨b1, o1, c1, p1, rfl, hlc1, hcm1, hp1, hcells1⟩ := hu.cells
  obtain ⟨b2, o2, c2, p2, rfl, hlc2, hcm2, hp2, hcells2⟩ := ht.cells
  clear hp1 hp2 hcells1 hcells2
  have eg : ∀ args w, (callFunc 17 args).run Try.prog w = .ok (.enter 17 args) w := enters_at Try.func17 (by kernel_rfl) rfl
  have HEG := Lib.hid eg
  clear eg
  go_enter Try.func5, Try.ntmps5
  go_wp2_with (fail)
  refine (for_calls l acts b _ _ _ hv0 hu).mono ?_
  rintro e w1 ⟨x, rfl, hx, hb1⟩
  have hb1' := Lib.hid hb1
  go_wp2_with (fail)
  refine (concatP_calls acts more _ _ w1.heap.size 0 _ (hu.stays (keeps_of_below (hb1.alloc hb1.size _))) (ht.stays (keeps_of_below (hb1.alloc hb1.size _))) (World.cell?_alloc_mark _ _ _ _ _) (World.cell?_alloc_mark _ _ _ _ _) hn).mono ?_
  rintro e w2 ⟨y, rfl, hy, hb2⟩
  have hbw2 : Below w.heap.size w w2 := (hb1.alloc hb1.size _).trans (hb2.mono (by have := hb1.size; simp; omega))
  have hbx2 : Below w1.heap.size w1 w2 := ((Below.refl _ _).alloc (Nat.le_refl _) _).trans (hb2.mono (by simp))
  have HB2 := Lib.hid hbw2
  have HX2 := Lib.hid hbx2
  clear hbw2 hbx2 hb2
  go_wp2_with (fail)
  refine (for_calls l (acts ++ more) b _ _ _ (hv0.stays (keeps_of_below HB2.out)) hy).mono ?_
  rintro e w3 ⟨z, rfl, hz, hb3⟩
  have hbw3 : Below w.heap.size w w3 := HB2.out.trans (hb3.mono HB2.out.size)
  have hbx3 : Below w1.heap.size w1 w3 := HX2.out.trans (hb3.mono HX2.out.size)
  have HB3 := Lib.hid hbw3
  have HX3 := Lib.hid hbx3
  have HZ := Lib.hid hz
  have HX := Lib.hid hx
  clear hbw3 hbx3 hb3 hy hb1 hz hx
  obtain ⟨b4, o4, c4, p4, rfl, hlc4, hcm4, hp4, hcells4⟩ := HX.out.cells
  obtain ⟨b5, o5, c5, p5, rfl, hlc5, hcm5, hp5, hcells5⟩ := HZ.out.cells
  clear hp4 hcells4 hp5 hcells5
  have hW4 : Below w.heap.size w (w3.alloc (.cells #[.slice p5 (forR l (acts ++ more) b).length c5] 27)) := HB3.out.alloc HB3.out.size _
  have HW4 := Lib.hid hW4
  have hZ4 : ∀ w', Below w3.heap.size w3 w' → Strs w' (forR l (acts ++ more) b) (.slice p5 (forR l (acts ++ more) b).length c5) := fun w' h => HZ.out.stays (keeps_of_below h)
  have HZ4 := Lib.hid hZ4
  have hX4 : ∀ w', Below w3.heap.size w3 w' → Strs w' (forR l acts b) (.slice p4 (forR l acts b).length c4) := fun w' h => HX.out.stays (keeps_of_below (HX3.out.trans (h.mono HX3.out.size)))
  have HX4 := Lib.hid hX4
  have HC4 : Hid ((w3.alloc (.cells #[.slice p5 (forR l (acts ++ more) b).length c5] 27)).cell? ⟨w3.heap.size, 0, none⟩ = some (.slice p5 (forR l (acts ++ more) b).length c5)) := World.cell?_alloc_mark _ _ _ _ _
  have HS4 : Hid (Below w3.heap.size w3 (w3.alloc (.cells #[.slice p5 (forR l (acts ++ more) b).length c5] 27))) := (Below.refl _ _).alloc (Nat.le_refl _) _
  have HSZ : Hid ((w3.alloc (.cells #[.slice p5 (forR l (acts ++ more) b).length c5] 27)).heap.size = w3.heap.size + 1) := by show (w3.alloc _).heap.size = _; simp
  clear hW4 hZ4 hX4
  by_cases he1 : forE l acts b = 0
  · by_cases he2 : forE l (acts ++ more) b = 0
    · have HL : Hid (anyBy (forR l acts b) (fun s => !has (forR l (acts ++ more) b) s) = false ∧ has (forR l acts b) b = true) := more_for he1 he2
      rw [he2]
      rw [he1]
      clear he1 he2
      go_wp2_with (fail)
      generalize w3.alloc (.cells #[.slice p5 (forR l (acts ++ more) b).length c5] 27) = W4 at *
      refine (chiefed_calls W4).mono ?_
      rintro e w5 ⟨rfl, hb5⟩
      have hb35 : Below w3.heap.size w3 w5 := HS4.out.trans (hb5.mono HS4.out.size)
      have HB35 := Lib.hid hb35
      have hbl : w3.heap.size < W4.heap.size := by have := HSZ.out; omega
      have hc5 : w5.cell? ⟨w3.heap.size, 0, none⟩ = some (.slice p5 (forR l (acts ++ more) b).length c5) := (hb5.cell (p := ⟨w3.heap.size, 0, none⟩) hbl).trans HC4.out
      have HC5 := Lib.hid hc5
      have hlt5 : w3.heap.size < w5.heap.size := Nat.lt_of_lt_of_le hbl hb5.size
      have hb05 : Below w.heap.size w w5 := HW4.out.trans (hb5.mono HW4.out.size)
      have HB05 := Lib.hid hb05
      clear hc5 hb35 hb5 hb05
      go_wp2_with (fail)
      refine (containsFunc_calls (forR l acts b) _ 17 #[.pointer (some ⟨w3.heap.size, 0, none⟩)] (fun s => !has (forR l (acts ++ more) b) s) _ (HX4.out _ HB35.out) HEG.out ?_).mono ?_
      · intro x w6 hb6
        exact more_fn_calls _ _ _ x w6 ((hb6.cell (p := ⟨w3.heap.size, 0, none⟩) hlt5).trans HC5.out) (HZ4.out _ (HB35.out.trans (hb6.mono HB35.out.size)))
      · rintro e w6 ⟨rfl, hb6⟩
        rw [HL.out.1]
        go_wp2_with (fail)
        refine (contains_calls (forR l acts b) b _ _ (HX4.out _ (HB35.out.trans (hb6.mono HB35.out.size)))).mono ?_
        rintro e w7 ⟨rfl, rfl⟩
        rw [HL.out.2]
        go_wp2
        go_ret
        exact ⟨rfl, HB05.out.trans (hb6.mono HB05.out.size)⟩
    · have hq : (forE l (acts ++ more) b != 0) = true := by simpa using he2
      have hq2 : (forE l (acts ++ more) b == 0) = false := by simpa using he2
      rw [he1]
      clear he1 he2
      go_wp2_with (fail)
      generalize w3.alloc (.cells #[.slice p5 (forR l (acts ++ more) b).length c5] 27) = W4 at *
      refine (chiefed_calls W4).mono ?_
      rintro e w5 ⟨rfl, hb5⟩
      go_wp2_with (fail)
      refine (chiefed_calls _).mono ?_
      rintro e w6 ⟨rfl, hb6⟩
      go_wp2
      go_ret
      exact ⟨rfl, (HW4.out.trans (hb5.mono HW4.out.size)).trans (hb6.mono (HW4.out.trans (hb5.mono HW4.out.size)).size)⟩
  · have hq : (forE l acts b != 0) = true := by simpa using he1
    have hq2 : (forE l acts b == 0) = false := by simpa using he1
    clear he1
    go_wp2_with (fail)
    generalize w3.alloc (.cells #[.slice p5 (forR l (acts ++ more) b).length c5] 27) = W4 at *
    refine (chiefed_calls W4).mono ?_
    rintro e w5 ⟨rfl, hb5⟩
    go_wp2_with (fail)
    refine (chiefed_calls _).mono ?_
    rintro e w6 ⟨rfl, hb6⟩
    go_wp2
    go_ret
    exact ⟨rfl, (HW4.out.trans (hb5.mono HW4.out.size)).trans (hb6.mono (HW4.out.trans (hb5.mono HW4.out.size)).size)⟩
end Go.Proofs.Ytianpbfieldngaa
