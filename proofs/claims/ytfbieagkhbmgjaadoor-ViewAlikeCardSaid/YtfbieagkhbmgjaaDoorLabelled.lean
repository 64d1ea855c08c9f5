/-
  cloisterlaw.labelled: a closed fact: two policies.
-/
import Derived.Test.YtfbieagkhbmgjaaDoorPrint
import Derived.Test.YtfbieagkhbmgjaaDoorJoinT
import Derived.Test.YtfbieagkhbmgjaaDoorLabE
import Derived.Test.YtfbieagkhbmgjaaDoorEqS
namespace Go.Proofs.YtfbieagkhbmgjaaDoor
open Go.RowKit Go.Maps
set_option linter.unusedVariables false
set_option linter.unusedSimpArgs false

def aT : Txt := ⟨#[97]⟩
def bT : Txt := ⟨#[98]⟩
def abL : List Txt := [aT, bT]
def twoL : Lab := [(aT, [bT]), (bT, [])]
theorem two_reads : labE abL [] twoL = 0 ∧ readsR abL [] twoL = [bT] := by decide +kernel
theorem two_print : printE twoL = 0 ∧ printS twoL = ⟨#[123, 97, 58, 98, 59, 98, 58, 125]⟩ := by decide +kernel
theorem two_flows : flowsE abL [] [] twoL = 0 ∧ flowsR abL [] [] twoL = true := by decide +kernel
theorem nil_reads {α : Type} (E : Enc α) (k : Nat) (w : World) : SliceOf E k w [] (.slice none 0 0) := ⟨none, 0, rfl, by simp, by unfold maxLen; omega, Or.inl rfl⟩
theorem ab_ok : okList okTxt abL := fun s hs => by simp [abL] at hs; rcases hs with rfl | rfl <;> (unfold okTxt; decide)
theorem two_ok : okLab twoL := fun p hp => by
  simp [twoL] at hp
  rcases hp with rfl | rfl
  · exact ⟨by unfold okTxt; decide, fun s hs => by simp at hs; subst hs; unfold okTxt; decide⟩
  · exact ⟨by unfold okTxt; decide, fun s hs => by simp at hs⟩
theorem objT_at (w : World) (l : List Txt) (e : TypeId) (n : Nat) (hn : w.heap.size = n) (hl : l.length ≤ 9223372036854775807) : Strs (w.alloc (.cells (l.map Value.string).toArray e)) l (.slice (some ⟨n, 0, none⟩) l.length l.length) := by
  subst hn; exact strs_new w l e hl

set_option maxHeartbeats 1000000 in
theorem labelled_calls (w : World) : Calls Tryd.prog 37 #[] w fun e w' => e = .returned (.bool true) ∧ Below w.heap.size w w' := by
  obtain ⟨W2, eW⟩ : ∃ W2, (w.alloc (.cells #[.string ⟨#[98]⟩] 9)).alloc (.cells #[.string ⟨#[97]⟩, .slice (some ⟨w.heap.size, 0, none⟩) 1 1, .string ⟨#[98]⟩, .slice none 0 0] 85) = W2 := ⟨_, rfl⟩
  obtain ⟨z2, hW, m1, m2⟩ := boxes2 eW
  have hA : Strs W2 [bT] (.slice (some ⟨w.heap.size, 0, none⟩) 1 1) := by
    have h := (objT_at w [bT] 9 _ rfl (by decide)).stays (keeps_of_below ((Below.refl _ _).alloc (Nat.le_refl _) (.cells #[.string ⟨#[97]⟩, .slice (some ⟨w.heap.size, 0, none⟩) 1 1, .string ⟨#[98]⟩, .slice none 0 0] 85)))
    rw [← eW]
    exact h
  have hL : Lbl W2 twoL (.slice (some ⟨w.heap.size + 1, 0, none⟩) 2 2) := by
    refine ⟨_, _, rfl, by decide, by unfold maxLen; decide, Or.inr ⟨_, 0, rfl, fun i hi => ?_⟩⟩
    match i, hi with
    | 0, _ =>
      refine ⟨[.string aT, .slice (some ⟨w.heap.size, 0, none⟩) 1 1], ⟨[.string aT], _, rfl, rfl, ⟨_, rfl, hA⟩⟩, rfl, fun j x hx => ?_⟩
      match j, hx with
      | 0, hx => simp at hx; subst hx; exact m2 0
      | 1, hx => simp at hx; subst hx; exact m2 1
    | 1, _ =>
      refine ⟨[.string bT, .slice none 0 0], ⟨[.string bT], _, rfl, rfl, ⟨_, rfl, nil_reads _ _ _⟩⟩, rfl, fun j x hx => ?_⟩
      match j, hx with
      | 0, hx => simp at hx; subst hx; exact m2 2
      | 1, hx => simp at hx; subst hx; exact m2 3
  have HW := Lib.hid hW
  have HL := Lib.hid hL
  have HZ := Lib.hid z2
  clear hW hL z2 m1 m2 hA
  go_enter Tryd.func37, Tryd.ntmps37
  have HAB : Hid (∀ W : World, Strs (W.alloc (.cells #[.string ⟨#[97]⟩, .string ⟨#[98]⟩] 9)) abL (.slice (some ⟨W.heap.size, 0, none⟩) 2 2)) := fun W => objT_at W abL 9 _ rfl (by decide)
  have HB1 : Hid (∀ W : World, Strs (W.alloc (.cells #[.string ⟨#[98]⟩] 9)) [bT] (.slice (some ⟨W.heap.size, 0, none⟩) 1 1)) := fun W => objT_at W [bT] 9 _ rfl (by decide)
  go_wp2_with (fail)
  have hb2 : Below W2.heap.size W2 (W2.alloc (.cells #[.string ⟨#[97]⟩, .string ⟨#[98]⟩] 9)) := (Below.refl _ _).alloc (Nat.le_refl _) _
  refine (reads_calls abL [] twoL _ _ _ _ (HAB.out W2) (nil_reads _ _ _) (HL.out.stays (keeps_of_below hb2)) ab_ok two_ok).mono ?_
  rintro e w3 ⟨y, rfl, hy, hb3⟩
  rw [two_reads.1]
  rw [two_reads.2] at hy
  have hy' := hy
  obtain ⟨b, o, c, p, rfl, hlc, hcm, hp, _⟩ := hy.cells
  obtain rfl := hp (by decide)
  have e3 : [bT].length = 1 := rfl
  rw [e3] at hy' ⊢
  have hb23 : Below W2.heap.size W2 w3 := hb2.trans (hb3.mono hb2.size)
  have HB23 := Lib.hid hb23
  have HY := Lib.hid hy'
  clear hy hy' e3 hb2 hb3 hb23
  go_wp2_with (fail)
  refine (print_calls twoL _ _ (HL.out.stays (keeps_of_below HB23.out))).mono ?_
  rintro e w4 ⟨rfl, hb4⟩
  rw [two_print.1, two_print.2]
  have hb24 : Below W2.heap.size W2 w4 := HB23.out.trans (hb4.mono HB23.out.size)
  have HB24 := Lib.hid hb24
  have HB4 := Lib.hid hb4
  clear hb4 hb24
  go_wp2_with (fail)
  have hb5 : Below w4.heap.size w4 (w4.alloc (.cells #[.string ⟨#[97]⟩, .string ⟨#[98]⟩] 9)) := (Below.refl _ _).alloc (Nat.le_refl _) _
  refine (flows_calls abL [] [] twoL _ _ _ _ _ (HAB.out w4) (nil_reads _ _ _) (nil_reads _ _ _) (HL.out.stays (keeps_of_below (HB24.out.trans (hb5.mono HB24.out.size)))) ab_ok (fun _ h => by simp at h) two_ok).mono ?_
  rintro e w6 ⟨rfl, hb6⟩
  rw [two_flows.1, two_flows.2]
  have hb46 : Below w4.heap.size w4 w6 := hb5.trans (hb6.mono hb5.size)
  have HB46 := Lib.hid hb46
  clear hb46 hb5 hb6
  go_wp2_with (fail)
  have hb7 : Below w6.heap.size w6 (w6.alloc (.cells #[.string ⟨#[98]⟩] 9)) := (Below.refl _ _).alloc (Nat.le_refl _) _
  have hb36 : Below w3.heap.size w3 w6 := HB4.out.trans (HB46.out.mono HB4.out.size)
  refine (equalS_calls [bT] [bT] _ _ _ (HY.out.stays (keeps_of_below (hb36.trans (hb7.mono hb36.size)))) (HB1.out w6)).mono ?_
  rintro e w8 ⟨rfl, n, rfl⟩
  have e4 : ([bT] == [bT]) = true := by rw [beq_iff_eq]
  rw [e4]
  have hend : Below w.heap.size w ((w6.alloc (.cells #[.string ⟨#[98]⟩] 9)).drewN n) := by
    have h1 : Below W2.heap.size W2 w6 := HB24.out.trans (HB46.out.mono HB24.out.size)
    have h2 : Below w.heap.size w w6 := HW.out.trans (h1.mono HW.out.size)
    exact below_drewN (h2.alloc h2.size _) n
  have HEND := Lib.hid hend
  clear hend hb7 hb36
  go_wp2
  go_ret
  exact ⟨rfl, HEND.out⟩
end Go.Proofs.YtfbieagkhbmgjaaDoor
