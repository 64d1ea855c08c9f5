/- Texts of the proof that ParseBrackets holds, part 13; no conditions. -/
import Derived.Test.YtminbehofnnhmaaGreatDoorPB10
import Derived.Test.YtminbehofnnhmaaGreatDoorPB11
import Derived.Test.YtminbehofnnhmaaGreatDoorPB08
import Derived.Test.YtminbehofnnhmaaGreatDoorPB12
import Derived.Deep.CutRange
import Derived.Deep.LoopGhost
namespace Go.Proofs.YtminbehofnnhmaaGreatDoor
set_option linter.unusedVariables false
set_option linter.unusedSimpArgs false
set_option maxHeartbeats 8000000
set_option maxRecDepth 100000
section
open Go.RowKit Go.Maps
theorem short_calls (s : Txt) (w : World) :
 Calls Tryz.prog 16 #[.string s] w fun e w' => e = .returned (.bool ((scanOf s).2.1 == 0)) ∧ Below w.heap.size w w' := by
 go_enter Tryz.func16, Tryz.ntmps16
 go_wp2_with (fail)
 refine (scan_calls s _).mono ?_
 rintro e w1 ⟨y, rfl, hy, hb1⟩
 obtain ⟨c, hc⟩ : ∃ c, (scanOf s).2.1 = c := ⟨_, rfl⟩
 have HC := Hd hc
 rw [hc]
 clear hc
 generalize (scanOf s).2.2 = a at *
 have HB := Hd (hb1.trans (((Below.refl _ _).alloc (Nat.le_refl _) (.cells #[.int .i64 c, .int .i64 a] 35)).mono hb1.size))
 clear hy hb1
 go_wp2
 go_ret
 exact ⟨by rw [HC.out]; rfl, HB.out⟩
def atI (k n : Int) : Int := if k.tmod n < 0 then k.tmod n + n else k.tmod n
theorem atI_range (k : Int) {n : Nat} (h0 : 0 < n) : ∃ i : Nat, i < n ∧ atI k n = i := by
 have h1 := Int.tmod_lt_of_pos k (b := (n : Int)) (by omega)
 have h2 := Int.lt_tmod_of_pos k (b := (n : Int)) (by omega)
 unfold atI
 split
 · exact ⟨(k.tmod n + n).toNat, by omega, by omega⟩
 · exact ⟨(k.tmod n).toNat, by omega, by omega⟩
theorem lawAt_calls (k : Int) (n : Nat) (w : World) (h0 : 0 < n) (hn : n ≤ 1048576) (hk : okNum k) :
 Calls Tryz.prog 23 #[.int .i64 k, .int .i64 n] w fun e w' => e = .returned (.int .i64 (atI k n)) ∧ w = w' := by
 unfold okNum at hk
 have h1 := Int.tmod_lt_of_pos k (b := (n : Int)) (by omega)
 have h2 := Int.lt_tmod_of_pos k (b := (n : Int)) (by omega)
 have HA : Hid (∀ m, k.tmod n = m → atI k n = if m < 0 then m + n else m) := fun m h => by subst h; rfl
 by_cases h : k.tmod n < 0
 · go_enter Tryz.func23, Tryz.ntmps23
   go_wp2
   go_ret
   exact ⟨ret_int (by rw [HA.out _ rfl, if_pos h]), rfl⟩
 · go_enter Tryz.func23, Tryz.ntmps23
   go_wp2
   go_ret
   exact ⟨ret_int (by rw [HA.out _ rfl, if_neg (by omega)]), rfl⟩
theorem byte40_calls (s : Txt) (p d : Nat) (hp : p ≤ s.size) (hd : Lib.indexByte ((bytesOf s).drop p) 40 = d) (w : World) :
 Calls Tryz.prog 24 #[.string (s.extract p s.size), .int .u8 40] w fun e w' => e = .returned (.int .i64 (d : Int)) ∧ w' = w := by
 have e : (s.extract p s.size).data.toList = (bytesOf s).drop p := by
  have := bytesOf_extract s p s.size
  rw [List.take_of_length_le (by rw [List.length_drop, bytesOf_len]; exact Nat.le_refl _)] at this
  exact this
 have := Tryz.strings_IndexByte (s.extract p s.size) 40 w
 rw [e, show (40 : Int).toNat.toUInt8 = 40 from rfl, hd] at this
 exact this
theorem count40_calls (s : Txt) (n : Nat) (hn : (bytesOf s).count 40 = n) (w : World) :
 Calls Tryz.prog 22 #[.string s, .string ⟨#[40]⟩] w fun e w' => e = .returned (.int .i64 (n : Int)) ∧ w' = w := by
 have := Tryz.strings_Count_one s 40 w
 have e : Lib.countByte s.data.toList 40 = n := hn
 rw [e] at this
 exact this
def relL (l : Lab) : Ex := .mk 5 0 0 0 ⟨#[]⟩ l [.mk 1 0 0 1 ⟨#[]⟩ [] []]
theorem relL_is {w : World} {l : Lab} {u : Value} (h : Lbl w l u) : ExIs (w.alloc (.cells #[.int .i64 1, .int .i64 0, .int .i64 0, .int .i64 1, .string ⟨#[]⟩, .slice none 0 0, .slice none 0 0] 26)) (relL l) (.agg #[.int .i64 5, .int .i64 0, .int .i64 0, .int .i64 0, .string ⟨#[]⟩, u, .slice (some ⟨w.heap.size, 0, none⟩) 1 1]) := by
 have hb : Below w.heap.size w (w.alloc (.cells #[.int .i64 1, .int .i64 0, .int .i64 0, .int .i64 1, .string ⟨#[]⟩, .slice none 0 0, .slice none 0 0] 26)) := (Below.refl _ _).alloc (Nat.le_refl _) _
 have hB : Blk (w.alloc (.cells #[.int .i64 1, .int .i64 0, .int .i64 0, .int .i64 1, .string ⟨#[]⟩, .slice none 0 0, .slice none 0 0] 26)) w.heap.size [.int .i64 1, .int .i64 0, .int .i64 0, .int .i64 1, .string ⟨#[]⟩, .slice none 0 0, .slice none 0 0] 26 := Blk.new _ _ _
 refine ⟨_, _, rfl, Lbl.stays (keeps_of_below hb) h, some ⟨w.heap.size, 0, none⟩, 1, rfl, Nat.le_refl _, by unfold maxLen; decide, .inr ⟨w.heap.size, 0, rfl, fun i hi => ?_⟩⟩
 have h0 : i = 0 := by have : i < 1 := hi; omega
 subst h0
 refine ⟨[.int .i64 1, .int .i64 0, .int .i64 0, .int .i64 1, .string ⟨#[]⟩, .slice none 0 0, .slice none 0 0], exE_mk (kind := 1) (at_ := 0) (n := 0) (ty := 1) (name := ⟨#[]⟩) (l := []) (a := []) (lbl_nil _) ⟨none, 0, rfl, Nat.le_refl _, by unfold maxLen; omega, .inl rfl⟩, rfl, fun j y hy => ?_⟩
 have := hB.cell j
 have e : 0 + 0 * 7 + j = j := by omega
 rw [e, this]
 exact hy
structure BW (w W : World) (x : Ex) (vl va : Value) : Prop where
 bel : Below w.heap.size w W
 box : Blk W w.heap.size [.int .i64 x.kind, .int .i64 x.at_, .int .i64 x.num, .int .i64 x.ty, .string x.name, vl, va] 26
theorem BW.step {w W W' : World} {x : Ex} {vl va : Value} (h : BW w W x vl va) (hb : Below W.heap.size W W') : BW w W' x vl va := ⟨h.bel.trans (hb.mono h.bel.size), h.box.below hb⟩
theorem BW.keep {w W : World} {x : Ex} {vl va : Value} (h : BW w W x vl va) : Keeps w W := keeps_of_below h.bel
def labGo (l : Lab) : Bool := (printE l == 0) && ((scanOf (printS l)).2.1 == 0) && formedS (relL l)
theorem labGo_back {l : Lab} (h : labGo l = true) : readL (printS l) = (l, 0, 0) := by
 unfold labGo at h
 simp only [Bool.and_eq_true, beq_iff_eq] at h
 exact label_back (fits_formed h.2) h.1.2
theorem brackets_calls (x : Ex) (v : Value) (l : Lab) (u : Value) (k : Int) (w : World) (hx : ExIs w x v) (hl : Lbl w l u) (hk : okNum k) (ht : Tab w) (hp : Pow w) :
 Calls Tryz.prog 3 #[v, u, .int .i64 k] w fun e w' => e = .returned (.bool true) ∧ Below w.heap.size w w' := by
 have hx0 := hx
 have HLL := Hd hl
 obtain ⟨vl, va, rfl, hvl, hva⟩ := hx
 obtain ⟨pl, cl, rfl, _⟩ := hvl
 obtain ⟨pa, ca, rfl, _⟩ := hva
 obtain ⟨pu, cu, rfl, _⟩ := hl
 have HX := Hd hx0
 have HT := Hd ht
 have HP := Hd hp
 have HKK := Hd hk
 clear hx0 ht hp hk
 obtain ⟨W1, eW⟩ : ∃ W, w.alloc (.cells #[.int .i64 x.kind, .int .i64 x.at_, .int .i64 x.num, .int .i64 x.ty, .string x.name, .slice pl x.lab.length cl, .slice pa x.kids.length ca] 26) = W := ⟨_, rfl⟩
 have hB1 : BW w W1 x (.slice pl x.lab.length cl) (.slice pa x.kids.length ca) := ⟨by rw [← eW]; exact (Below.refl _ _).alloc (Nat.le_refl _) _, by rw [← eW]; exact Blk.new _ _ _⟩
 have HB1 := Hd hB1
 obtain ⟨q0, q1, q2, q3, q4, q5, q6⟩ := hB1.box.cells7
 have HC := Hd (textTop_calls x _ W1 (HX.out.stays hB1.keep) (HT.out.below hB1.bel) (HP.out.below hB1.bel))
 clear hB1
 go_enter Tryz.func3, Tryz.ntmps3
 go_wp2_with (fail)
 refine HC.out.mono ?_
 rintro e w2 ⟨rfl, hb2⟩
 have HB2 := Hd (HB1.out.step hb2)
 have HC2 := Hd (treed_calls w2 (HT.out.below HB2.out.bel) (HP.out.below HB2.out.bel))
 clear HC hb2 eW q0 q1 q2 q3 q4 q5 q6 HB1
 go_wp2_with (fail)
 refine HC2.out.mono ?_
 rintro e w3 ⟨rfl, hb3⟩
 have HB3 := Hd (HB2.out.step hb3)
 have HC3 := Hd (print_calls l _ w3 (HLL.out.stays HB3.out.keep))
 clear HC2 hb3 HB2
 go_wp2_with (fail)
 refine HC3.out.mono ?_
 rintro e w4 ⟨rfl, hb4⟩
 have HB4 := Hd (HB3.out.step hb4)
 clear HC3 hb4 HB3
 go_upto_region 5 with fail
 go_cut [43] from 31 to 43 (fun s43 wc => s43 = .bool (labGo l) ∧ BW w wc x (.slice pl x.lab.length cl) (.slice pa x.kids.length ca))
 case first =>
  obtain ⟨c0, hc0⟩ : ∃ b, (printE l == 0) = b := ⟨_, rfl⟩
  obtain ⟨c1, hc1⟩ : ∃ b, ((scanOf (printS l)).2.1 == 0) = b := ⟨_, rfl⟩
  obtain ⟨c2, hc2⟩ : ∃ b, formedS (relL l) = b := ⟨_, rfl⟩
  have HGO : Hid (labGo l = (c0 && c1 && c2)) := by unfold Hid labGo; rw [hc0, hc1, hc2]
  have HS := Hd (short_calls (printS l) w4)
  rw [hc1] at HS
  have HF : Hid (∀ W, Below w4.heap.size w4 W → Calls Tryz.prog 17 #[.agg #[.int .i64 5, .int .i64 0, .int .i64 0, .int .i64 0, .string ⟨#[]⟩, .slice pu l.length cu, .slice (some ⟨W.heap.size, 0, none⟩) 1 1]] (W.alloc (.cells #[.int .i64 1, .int .i64 0, .int .i64 0, .int .i64 1, .string ⟨#[]⟩, .slice none 0 0, .slice none 0 0] 26)) fun e w' => e = .returned (.bool c2) ∧ Below W.heap.size W w') := fun W hW => by
   have hb : Below W.heap.size W (W.alloc (.cells #[.int .i64 1, .int .i64 0, .int .i64 0, .int .i64 1, .string ⟨#[]⟩, .slice none 0 0, .slice none 0 0] 26)) := (Below.refl _ _).alloc (Nat.le_refl _) _
   have h := formed_calls (relL l) _ _ (relL_is ((HLL.out.stays HB4.out.keep).stays (keeps_of_below hW))) ((HT.out.below (HB4.out.step hW).bel).below hb)
   rw [hc2] at h
   exact h.mono fun e w' ⟨h1, h2⟩ => ⟨h1, hb.trans (h2.mono hb.size)⟩
  clear hc1 hc2
  cases c0 with
  | false =>
    go_wp2_with (fail)
    go_meet
    exact ⟨by rw [HGO.out]; rfl, HB4.out⟩
  | true =>
    go_wp2_with (fail)
    refine HS.out.mono ?_
    rintro e w5 ⟨rfl, hb5⟩
    have HB5 := Hd (HB4.out.step hb5)
    have HF5 := Hd (HF.out w5 hb5)
    clear hb5 HF HS
    cases c1 with
    | false =>
      go_wp2_with (fail)
      go_meet
      exact ⟨by rw [HGO.out]; rfl, HB5.out⟩
    | true =>
      go_wp2_with (fail)
      refine HF5.out.mono ?_
      rintro e w6 ⟨rfl, hb6⟩
      have HB6 := Hd (HB5.out.step hb6)
      clear hb6 HF5
      go_wp2_with (fail)
      go_meet
      exact ⟨by rw [HGO.out]; cases c2 <;> rfl, HB6.out⟩
 case rest =>
 obtain ⟨rfl, HB5⟩ := hcut
 obtain ⟨s, hs⟩ : ∃ s, textS x = s := ⟨_, rfl⟩
 obtain ⟨c, hc⟩ : ∃ c, textE x = c := ⟨_, rfl⟩
 rw [hs, hc]
 have HS := Hd hs
 have HE := Hd hc
 clear hs hc HB4
 have HB5 := Hd HB5
 go_upto_if 43 with fail
 go_cut [] from 43 (fun wd => BW w wd x (.slice pl x.lab.length cl) (.slice pa x.kids.length ca))
 case first =>
  cases hg : labGo l with
  | false =>
    clear hg
    go_wp2_with (fail)
    go_meet
    exact HB5.out
  | true =>
    have HRL := labelTop_calls (printS l) wc (HT.out.below HB5.out.bel)
    obtain ⟨c2, a2, hc2, ha2⟩ : ∃ c a : Int, c = 0 ∧ a = 0 := ⟨0, 0, rfl, rfl⟩
    rw [labGo_back hg, show ((l, 0, 0) : Lab × Int × Int) = (l, c2, a2) by rw [hc2, ha2]] at HRL
    have HRL := Hd HRL
    have hc3 : (c2 != 0) = false := by rw [hc2]; rfl
    clear hc2 ha2
    clear hg
    go_wp2_with (fail)
    refine HRL.out.mono ?_
    rintro e w7 ⟨v, rfl, hl7, hb7⟩
    replace hl7 := Lbl.stays (hide_keeps _ _) hl7
    have HM7 := Hd hl7
    obtain ⟨pn, cn, rfl, _⟩ := hl7
    obtain ⟨W8, eW8⟩ : ∃ W, w7.alloc (.cells #[.int .i64 c2, .int .i64 a2] 35) = W := ⟨_, rfl⟩
    obtain ⟨z8, hb8, m0⟩ := boxes1 eW8
    have k0 := m0 0
    simp only [List.getElem?_toArray, List.getElem?_cons_zero] at k0
    have HB8 := Hd ((HB5.out.step hb7).step hb8)
    have HSL := Hd (refSameLab_calls l l _ _ W8 (HLL.out.stays HB8.out.keep) (Lbl.stays (keeps_of_below hb8) HM7.out))
    rw [lab_refl] at HSL
    clear hb7 hb8 m0 z8 HM7 HRL
    go_wp2_with (fail)
    refine HSL.out.mono ?_
    rintro e w9 ⟨rfl, hb9⟩
    have HB9 := Hd (HB8.out.step hb9)
    clear hb9 HSL eW8 k0
    go_wp2_with (fail)
    go_meet
    exact HB9.out
 case rest =>
 have HB6 := Hd hcut
 clear hcut HB5
 cases hf : formedS x with
 | false =>
   obtain rfl : c = 4 := by rw [← HE.out]; unfold textE; rw [hf]; rfl
   go_wp2_with (fail)
   go_ret
   exact ⟨rfl, HB6.out.bel⟩
 | true =>
 obtain rfl : c = 0 := by rw [← HE.out]; unfold textE; rw [hf]; rfl
 have hs2 : s = textP x 0 := by rw [← HS.out]; unfold textS; rw [hf]; rfl
 have HF := Hd hf
 clear HE HS hf
 have HSH := Hd (short_calls s wc)
 cases hz : ((scanOf s).2.1 == 0) with
 | false =>
   rw [hz] at HSH
   clear hz hs2
   go_wp2_with (fail)
   refine HSH.out.mono ?_
   rintro e w7 ⟨rfl, hb7⟩
   have HB7 := Hd (HB6.out.step hb7)
   clear hb7
   go_wp2_with (fail)
   go_ret
   exact ⟨rfl, HB7.out.bel⟩
 | true =>
 rw [hz] at HSH
 have hz1 : (scanOf s).2.1 = 0 := by simpa using hz
 have hsz : s.size ≤ 4000 := (scanOf_stands (scan_code hz1)).1
 have hbk := parse_text HF.out (by rw [← hs2]; exact hz1)
 rw [← hs2] at hbk
 obtain ⟨y, hy, hxy⟩ := hbk
 have HEND : Hid (∀ i, dpAt s i s.size ≤ 0) := fun i => by rw [hs2]; exact dpAt_end HF.out i
 have HFEW : Hid (∀ t, (bytesOf t).count 40 < (bytesOf s).count 40 → (parseX t).2.1 = 0 → sameE x (parseX t).1 = false) := fun t h1 h2 => fewerK_law HF.out (by rw [← hs2]; exact h1) h2
 have HSZ := Hd hsz
 have HXY := Hd hxy
 have HYY := Hd hy
 clear hz hz1 hsz hy hxy hs2
 go_wp2_with (fail)
 refine HSH.out.mono ?_
 rintro e w7 ⟨rfl, hb7⟩
 have HB7 := Hd (HB6.out.step hb7)
 have hpx := parseX_calls s w7 (HT.out.below HB7.out.bel)
 obtain ⟨c2, a2, hc2, ha2⟩ : ∃ c a : Int, c = 0 ∧ a = 0 := ⟨0, 0, rfl, rfl⟩
 rw [HYY.out, show ((y, 0, 0) : Ex × Int × Int) = (y, c2, a2) by rw [hc2, ha2]] at hpx
 have HPX := Hd hpx
 have hc3 : (c2 != 0) = false := by rw [hc2]; rfl
 clear hc2 ha2
 clear hb7 HSH HB6 hpx HYY
 go_wp2_with (fail)
 refine HPX.out.mono ?_
 rintro e w8 ⟨v, rfl, hx8, hb8⟩
 replace hx8 := hx8.stays (hide_keeps _ _)
 have HX8 := Hd hx8
 obtain ⟨ul, ua, rfl, hvl, hva⟩ := hx8
 obtain ⟨ql, dl, rfl, _⟩ := hvl
 obtain ⟨qa, da, rfl, _⟩ := hva
 obtain ⟨W9, eW9⟩ : ∃ W, (w8.alloc (.cells #[.int .i64 y.kind, .int .i64 y.at_, .int .i64 y.num, .int .i64 y.ty, .string y.name, .slice ql y.lab.length dl, .slice qa y.kids.length da] 26)).alloc (.cells #[.int .i64 c2, .int .i64 a2] 35) = W := ⟨_, rfl⟩
 obtain ⟨z9, hb9, m0, m1⟩ := boxes2 eW9
 have HY9 : Hid (Blk W9 w8.heap.size [.int .i64 y.kind, .int .i64 y.at_, .int .i64 y.num, .int .i64 y.ty, .string y.name, .slice ql y.lab.length dl, .slice qa y.kids.length da] 26) := by rw [← eW9]; exact (Blk.new _ _ _).below ((Below.refl _ _).alloc (Nat.le_refl _) _)
 have HF9 : Hid (Blk W9 (w8.heap.size + 1) [.int .i64 c2, .int .i64 a2] 35) := by rw [← eW9]; exact Blk.new2 _ _ _ _ _
 have HB8 := Hd (HB7.out.step hb8)
 have HB9 := Hd (HB8.out.step hb9)
 have HN9 := Hd hb9
 have hsm := same_calls x y _ _ W9 (HX.out.stays HB9.out.keep) (HX8.out.stays (keeps_of_below hb9))
 rw [HXY.out] at hsm
 have HSM := Hd hsm
 obtain ⟨q0, q1, q2, q3, q4, q5, q6⟩ := HB9.out.box.cells7
 obtain ⟨v0, v1, v2, v3, v4, v5, v6⟩ := HY9.out.cells7
 have f0 := HF9.out.cell 0
 simp only [List.getElem?_cons_zero] at f0
 clear hb8 hb9 m0 m1 z9 HX8 hsm HXY HPX HB7
 go_wp2_with (fail)
 clear eW9
 refine HSM.out.mono ?_
 rintro e w10 ⟨rfl, hb10⟩
 have HB10 := Hd (HB9.out.step hb10)
 have HY10 := Hd (HY9.out.below hb10)
 have HF10 := Hd (HF9.out.below hb10)
 have HN10 := Hd (HN9.out.trans (hb10.mono HN9.out.size))
 obtain ⟨n, hn⟩ : ∃ n, (bytesOf s).count 40 = n := ⟨_, rfl⟩
 have HN := Hd hn
 clear hb10 HSM q0 q1 q2 q3 q4 q5 q6 v0 v1 v2 v3 v4 v5 v6 f0 HY9 HF9 HB9 HN9 hn
 go_wp2_with (fail)
 refine (count40_calls s n HN.out _).mono ?_
 rintro e w11 ⟨rfl, hw⟩
 obtain rfl := hw.symm
 by_cases hn0 : n = 0
 · have hn1 : ¬ (0 : Int) < (n : Int) := by omega
   clear hn0
   go_wp2_with (fail)
   go_ret
   exact ⟨rfl, HB10.out.bel⟩
 have hn1 : (0 : Int) < (n : Int) := by omega
 obtain ⟨kk, hkk, hat⟩ := atI_range k (n := n) (by omega)
 have hnm : n ≤ 1048576 := by
  have h1 := HSZ.out
  have h2 := List.count_le_length (a := (40 : UInt8)) (l := bytesOf s)
  rw [HN.out, bytesOf_len] at h2
  omega
 have HAT := Hd (lawAt_calls k n w10 (by omega) hnm HKK.out)
 rw [hat] at HAT
 have HKN := Hd hkk
 have HNS := Hd hnm
 clear hn0 hkk hat hnm
 go_wp2_with (fail)
 refine HAT.out.mono ?_
 rintro e w12 ⟨rfl, hw⟩
 obtain rfl := hw
 clear HAT hn1
 obtain ⟨K, hK⟩ : ∃ K, kk + 1 = K := ⟨_, rfl⟩
 have hk1 : (kk : Int) + 1 = (K : Int) := by omega
 have hk2 : (K : Int) ≤ 9223372036854775807 := by have := HKN.out; have := HNS.out; omega
 have HKK2 : Hid (1 ≤ K ∧ K ≤ n) := by have := HKN.out; unfold Hid; omega
 clear hK
 go_wp2_with (fail)
 go_loop [16, 88] (fun iv mv => ∃ (z : Int) (p q : Nat), iv = .int .i64 z ∧ mv = .int .i64 (q : Int) ∧ q ≤ K ∧ z = (p : Int) - 1 ∧ Hid (Behind s q p)) (fun _ mv => K - (intOf mv).toNat)
 case atStart => exact ⟨-1, 0, 0, rfl, rfl, Nat.zero_le _, by omega, behind_zero s⟩
 case round =>
  obtain ⟨z, p, q, rfl, rfl, hq, hz, HBH⟩ := hrel
  by_cases hlt : q < K
  · obtain ⟨d, e1, e2, e3, e4⟩ := behind_step HBH.out HN.out (show q < n by have := HKK2.out; omega)
    have HI := Hd (byte40_calls s p d (by omega) e1 w10)
    have HNX := Hd e4
    have hlt' : (q : Int) < (K : Int) := by omega
    have hz1 : z + 1 = (p : Int) := by omega
    obtain ⟨z2, hz2⟩ : ∃ z2, z + (1 + (d : Int)) = z2 := ⟨_, rfl⟩
    have HZ2 : Hid (z2 = ((p + d + 1 : Nat) : Int) - 1) := by unfold Hid; omega
    have hp1 : ¬ s.size < p := by omega
    have hp2 : (p : Int) ≤ 9223372036854775807 := by have := HSZ.out; omega
    have hp3 : (z2 : Int) ≤ 9223372036854775807 := by have := HSZ.out; have := HZ2.out; omega
    have hp4 : -9223372036854775808 ≤ (z2 : Int) := by have := HSZ.out; have := HZ2.out; omega
    have hp5 : 1 + (d : Int) ≤ 9223372036854775807 := by have := HSZ.out; omega
    have hp6 : (q : Int) + 1 ≤ 9223372036854775807 := by have := HSZ.out; have := HNS.out; have := HKK2.out; omega
    have HW3 : Hid (q + 1 ≤ K) := by unfold Hid; omega
    have HW4 : Hid (d ≤ s.size ∧ p + d + 1 ≤ s.size ∧ s.size ≤ 4000) := ⟨e2, e3, HSZ.out⟩
    clear e1 e2 e3 e4 hlt hz hq
    go_wp2_with (fail)
    refine HI.out.mono ?_
    rintro e w13 ⟨rfl, hw⟩
    obtain rfl := hw.symm
    clear HI
    go_wp2_with (fail)
    go_round
    case rel => exact ⟨_, p + d + 1, q + 1, by go_num, by go_num, HW3.out, HZ2.out, HNX⟩
    case measure => have := HW3.out; simp [intOf]; omega
  · obtain rfl : q = K := by omega
    obtain ⟨h1, h2, h3⟩ := HBH.out
    obtain ⟨h4, h5⟩ := h3 (by have := HKK2.out; omega)
    obtain ⟨i0, rfl⟩ : ∃ i0 : Nat, z = (i0 : Int) := ⟨p - 1, by omega⟩
    have hip : p - 1 = i0 := by omega
    rw [hip] at h5
    have HI0 := Hd (And.intro h5 (show i0 < s.size by omega))
    clear h1 h2 h3 h4 h5 hip hq hz hlt HBH
    go_wp2_with (fail)
    go_loop [17, 18] (fun dv jv => ∃ (D : Int) (j : Nat), dv = .int .i64 D ∧ jv = .int .i64 (j : Int) ∧ i0 ≤ j ∧ j ≤ s.size ∧ Hid (D = dpAt s i0 j) ∧ Hid (i0 < j → 1 ≤ D) ∧ 0 ≤ D ∧ D ≤ j) (fun _ jv => s.size - (intOf jv).toNat)
    case atStart => exact ⟨0, i0, rfl, rfl, Nat.le_refl _, by have := HI0.out.2; omega, (dpAt_self s i0).symm, fun h => absurd h (Nat.lt_irrefl _), by omega, by omega⟩
    case round =>
     obtain ⟨D, j, rfl, rfl, hij, hj, HD, H1, hD0, hD1⟩ := hrel
     by_cases hlt : j < s.size
     · have hlt' : (j : Int) < (s.size : Int) := by omega
       have HSU := Hd (dpAt_succ hij hlt)
       have hbd : D + 1 ≤ 9223372036854775807 := by have := HSZ.out; omega
       have hbj : (j : Int) + 1 ≤ 9223372036854775807 := by have := HSZ.out; omega
       have hbb : -9223372036854775808 ≤ D - 1 := by omega
       have HR := Hd (And.intro hij (And.intro hlt (And.intro hD0 hD1)))
       have HST : Hid (s[j] = 41 → i0 < j) := fun h => by
        rcases Nat.lt_or_ge i0 j with h' | h'
        · exact h'
        · obtain rfl : j = i0 := by omega
          have h1 := HI0.out.1
          rw [List.getElem?_eq_getElem (by rw [bytesOf_len]; exact hlt), bytesOf_at s j hlt, h] at h1
          exact absurd h1 (by decide)
       clear hij hj hD0 hD1
       obtain ⟨bt, hbt⟩ : ∃ bt, s[j] = bt := ⟨_, rfl⟩
       rw [hbt] at HSU HST
       by_cases h40 : bt = 40
       · have e40 : (((bt.toNat : Nat) : Int) == 40) = true := by rw [h40]; rfl
         have e41 : (((bt.toNat : Nat) : Int) == 41) = false := by rw [h40]; rfl
         have HNX : Hid (D + 1 = dpAt s i0 (j + 1)) := by have h1 := HSU.out; rw [if_pos h40, ← HD.out] at h1; exact h1.symm
         clear h40 HSU HST
         go_wp2_with (fail)
         go_round
         case rel => exact ⟨D + 1, j + 1, by go_num, by go_num, by have := HR.out; omega, by have := HR.out; omega, HNX, fun _ => by have := HR.out; omega, by have := HR.out; omega, by have := HR.out; omega⟩
         case measure => have := HR.out; simp [intOf]; omega
       · have e40 : (((bt.toNat : Nat) : Int) == 40) = false := by
          rw [beq_eq_false_iff_ne]
          intro h
          exact h40 (UInt8.toNat_inj.1 (by show _ = 40; omega))
         by_cases h41 : bt = 41
         · have e41 : (((bt.toNat : Nat) : Int) == 41) = true := by rw [h41]; rfl
           have HNX : Hid (D - 1 = dpAt s i0 (j + 1)) := by have h1 := HSU.out; rw [if_neg h40, if_pos h41, ← HD.out] at h1; unfold Hid; omega
           have hij : i0 < j := HST.out h41
           have hDp : 1 ≤ D := H1.out hij
           by_cases hD : D = 1
           · subst hD
             have HIJ := Hd hij
             clear h40 h41 HSU HST hDp hij
             have ejs : ((j : Int) == (s.size : Int)) = false := by rw [beq_eq_false_iff_ne]; omega
             have p1 : ¬ s.size < i0 := by have := HI0.out.2; omega
             have p2 : i0 + 1 ≤ j := by have := HIJ.out; omega
             have p3 : ¬ s.size < j := by omega
             have p4 : j + 1 ≤ s.size := by omega
             have g1 : (i0 : Int) + 1 ≤ 9223372036854775807 := by have := HSZ.out; omega
             obtain ⟨A, hA⟩ : ∃ A, s.extract 0 i0 = A := ⟨_, rfl⟩
             obtain ⟨i1, hi1⟩ : ∃ i1, i0 + 1 = i1 := ⟨_, rfl⟩
             obtain ⟨j1, hj1⟩ : ∃ j1, j + 1 = j1 := ⟨_, rfl⟩
             obtain ⟨M, hM⟩ : ∃ M, s.extract i1 j = M := ⟨_, rfl⟩
             obtain ⟨Z, hZ⟩ : ∃ Z, s.extract j1 s.size = Z := ⟨_, rfl⟩
             obtain ⟨A1, hA1⟩ : ∃ X, A ++ (⟨#[32]⟩ : ByteArray) = X := ⟨_, rfl⟩
             obtain ⟨A2, hA2⟩ : ∃ X, A1 ++ M = X := ⟨_, rfl⟩
             obtain ⟨A3, hA3⟩ : ∃ X, A2 ++ (⟨#[32]⟩ : ByteArray) = X := ⟨_, rfl⟩
             obtain ⟨A4, hA4⟩ : ∃ X, A3 ++ Z = X := ⟨_, rfl⟩
             have HCUT : Hid (cutT s i0 j = A4) := by unfold Hid cutT blank1; rw [hi1, hj1, hA, hM, hZ, hA1, hA2, hA3, hA4]
             have hAs : A.size ≤ 4000 := by rw [← hA, ByteArray.size_extract]; have := HSZ.out; omega
             have hMs : M.size ≤ 4000 := by rw [← hM, ByteArray.size_extract]; have := HSZ.out; omega
             have hZs : Z.size ≤ 4000 := by rw [← hZ, ByteArray.size_extract]; have := HSZ.out; omega
             have hone : (⟨#[32]⟩ : ByteArray).size = 1 := rfl
             have z1 : ¬ 9223372036854775807 < A.size + (⟨#[32]⟩ : ByteArray).size := by omega
             have s1 : A1.size = A.size + 1 := by rw [← hA1, ByteArray.size_append]; rfl
             have s2 : A2.size = A1.size + M.size := by rw [← hA2, ByteArray.size_append]
             have s3 : A3.size = A2.size + 1 := by rw [← hA3, ByteArray.size_append]; rfl
             have z2 : ¬ 9223372036854775807 < A1.size + M.size := by omega
             have z3 : ¬ 9223372036854775807 < A2.size + (⟨#[32]⟩ : ByteArray).size := by omega
             have z4 : ¬ 9223372036854775807 < A3.size + Z.size := by omega
             clear s1 s2 s3
             have e1 : IntKind.i64.wrap ((i0 : Int) + 1) = (i1 : Int) := by rw [IntKind.wrap_i64]; omega
             have e2 : IntKind.i64.wrap ((j : Int) + 1) = (j1 : Int) := by rw [IntKind.wrap_i64]; omega
             clear hAs hMs hZs hone
             obtain ⟨y2, c2', a2', hr2⟩ : ∃ y c a, parseX (cutT s i0 j) = (y, c, a) := ⟨_, _, _, rfl⟩
             have hp2 := parseX_calls (cutT s i0 j) w10.drew (HT.out.below (HB10.out.bel.trans ((below_drew1 _).mono HB10.out.bel.size)))
             rw [hr2, HCUT.out] at hp2
             have HP2 := Hd hp2
             have HR2 := Hd hr2
             clear hp2 hr2
             go_upto_region 32 with fail
             clear hlt' hbd hbj hbb e40 e41 ejs hk1 hk2 p1 p3 g1 hc3
             have p1 : i0 ≤ s.size := by have := HI0.out.2; omega
             have p3 : j ≤ s.size := by omega
             rw [hi1] at p2
             rw [hj1] at p4
             clear hi1 hj1
             go_cut [] from 124 (fun wd => ∃ p1 d1 p2 d2, BW w wd x (.slice pl x.lab.length cl) (.slice pa x.kids.length ca) ∧ Blk wd w8.heap.size [.int .i64 y2.kind, .int .i64 y2.at_, .int .i64 y2.num, .int .i64 y2.ty, .string y2.name, .slice p1 y2.lab.length d1, .slice p2 y2.kids.length d2] 26 ∧ Blk wd (w8.heap.size + 1) [.int .i64 c2', .int .i64 a2'] 35 ∧ ExIs wd y2 (.agg #[.int .i64 y2.kind, .int .i64 y2.at_, .int .i64 y2.num, .int .i64 y2.ty, .string y2.name, .slice p1 y2.lab.length d1, .slice p2 y2.kids.length d2]))
             case first =>
              go_region_with (go_at_call 20; refine HP2.out.mono ?_; rintro e w13 ⟨v, rfl, hx13, hb13⟩; have hbA := (below_drew1 w10).trans (hb13.mono (below_drew1 w10).size); have HBW := Hd (HB10.out.step hbA); have HY13 := Hd (HY10.out.below hbA); have HF13 := Hd (HF10.out.below hbA); have HN13 := Hd (HN10.out.trans (hbA.mono HN10.out.size)); have HX13 := Hd hx13; obtain ⟨ul2, ua2, rfl, hvl, hva⟩ := hx13; obtain ⟨p1, d1, rfl, _⟩ := hvl; obtain ⟨p2, d2, rfl, _⟩ := hva; obtain ⟨q0, q1, q2, q3, q4, q5, q6⟩ := HY13.out.cells7; obtain ⟨f0, f1, f2, f3, f4, f5, f6⟩ := HY13.out.fz7; have r0 := HF13.out.cell 0; have r1 := HF13.out.cell 1; simp only [List.getElem?_cons_zero, List.getElem?_cons_succ] at r0 r1; have k0 := HF13.out.fz 0; have k1 := HF13.out.fz 1; have hn1 : ¬ w8.heap.size = w8.heap.size + 1 := by omega)
              go_wp2_with (fail)
              go_meet
              have hP := pair_set (x0 := .int .i64 y2.kind) (x1 := .int .i64 y2.at_) (x2 := .int .i64 y2.num) (x3 := .int .i64 y2.ty) (x4 := .string y2.name) (x5 := .slice p1 y2.lab.length d1) (x6 := .slice p2 y2.kids.length d2) (u := .int .i64 c2') (v := .int .i64 a2') HN13.out HY13.out HF13.out rfl rfl
              have hlt8 : w8.heap.size + 1 < w10.drew.heap.size := HF10.out.lt
              have hX := (HX13.out.stays ((since_sev (n := w8.heap.size) (a := .int .i64 y2.kind) (b := .int .i64 y2.at_) (c := .int .i64 y2.num) (d := .int .i64 y2.ty) (e := .string y2.name) (f := .slice p1 y2.lab.length d1) (g := .slice p2 y2.kids.length d2) (by omega)).trans ((since_set _ 0 (.int .i64 c2') (b := w8.heap.size + 1) hlt8).trans (since_set _ 1 (.int .i64 a2') (b := w8.heap.size + 1) hlt8)))).stays (hide_keeps _ _)
              unfold sev at hP hX
              exact ⟨p1, d1, p2, d2, HB8.out.step hP.2.2.2.2.2.2.2, hP.2.2.2.1, hP.2.2.2.2.1, hX⟩
             case rest =>
             obtain ⟨p1, d1, p2, d2, hBW, hY, hF, hX⟩ := hcut
             have HBW := Hd hBW
             have f0 := hF.cell 0
             simp only [List.getElem?_cons_zero] at f0
             by_cases hc : c2' = 0
             · have hc1 : (c2' != 0) = false := by rw [hc]; rfl
               have hij := HIJ.out
               have hs := HFEW.out (cutT s i0 j) (cutT_count hij hlt HI0.out.1) (by rw [HR2.out]; exact hc)
               rw [HR2.out] at hs
               have hs : sameE x y2 = false := hs
               have hsm := same_calls x y2 _ _ wc (HX.out.stays hBW.keep) hX
               rw [hs] at hsm
               have HSM := Hd hsm
               obtain ⟨q0, q1, q2, q3, q4, q5, q6⟩ := hBW.box.cells7
               obtain ⟨v0, v1, v2, v3, v4, v5, v6⟩ := hY.cells7
               clear hsm hs hij hc hX hY hF hBW
               go_wp2_with (fail)
               refine HSM.out.mono ?_
               rintro e w14 ⟨rfl, hb14⟩
               have HB14 := Hd (HBW.out.step hb14)
               clear hb14 HSM q0 q1 q2 q3 q4 q5 q6 v0 v1 v2 v3 v4 v5 v6 f0
               go_wp2_with (fail)
               go_ret
               exact ⟨rfl, HB14.out.bel⟩
             · have hc1 : (c2' != 0) = true := bne_iff_ne.2 hc
               clear hc hX hY hF hBW
               go_wp2_with (fail)
               go_ret
               exact ⟨rfl, HBW.out.bel⟩
           · have eD : (D - 1 == 0) = false := by rw [beq_eq_false_iff_ne]; omega
             have HDP : Hid (2 ≤ D) := by unfold Hid; omega
             clear h40 h41 HSU HST hDp hij hD
             go_wp2_with (fail)
             go_round
             case rel => exact ⟨D - 1, j + 1, by go_num, by go_num, by have := HR.out; omega, by have := HR.out; omega, HNX, fun _ => by have := HDP.out; omega, by have := HDP.out; omega, by have := HR.out; omega⟩
             case measure => have := HR.out; simp [intOf]; omega
         · have e41 : (((bt.toNat : Nat) : Int) == 41) = false := by
            rw [beq_eq_false_iff_ne]
            intro h
            exact h41 (UInt8.toNat_inj.1 (by show _ = 41; omega))
           have HNX : Hid (D = dpAt s i0 (j + 1)) := by have h1 := HSU.out; rw [if_neg h40, if_neg h41, ← HD.out] at h1; unfold Hid; omega
           have HNJ : Hid (i0 < j) := by
            rcases Nat.lt_or_ge i0 j with h' | h'
            · exact h'
            · have := HR.out
              obtain rfl : j = i0 := by omega
              have h1 := HI0.out.1
              rw [List.getElem?_eq_getElem (by rw [bytesOf_len]; exact hlt), bytesOf_at s j hlt] at h1
              exact absurd (by rw [hbt] at h1; simpa using h1) h40
           clear h40 h41 HSU HST
           go_wp2_with (fail)
           go_round
           case rel => exact ⟨D, j + 1, by go_num, by go_num, by have := HR.out; omega, by have := HR.out; omega, HNX, fun _ => H1.out HNJ.out, by have := HR.out; omega, by have := HR.out; omega⟩
           case measure => have := HR.out; simp [intOf]; omega
     · exfalso
       obtain rfl : j = s.size := by omega
       have h1 := HEND.out i0
       have h2 := H1.out HI0.out.2
       rw [← HD.out] at h1
       omega
end
end Go.Proofs.YtminbehofnnhmaaGreatDoor
