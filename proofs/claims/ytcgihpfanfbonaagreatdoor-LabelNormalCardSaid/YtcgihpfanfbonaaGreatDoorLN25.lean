/-
  label.Print: a label's text. cloisterlaw.labelled: a closed fact: two policies.
-/
import Derived.Test.YtcgihpfanfbonaaGreatDoorLN03
import Derived.Test.YtcgihpfanfbonaaGreatDoorLN02
import Derived.Test.YtcgihpfanfbonaaGreatDoorLN01
import Derived.Test.YtcgihpfanfbonaaGreatDoorLN04
import Derived.Test.YtcgihpfanfbonaaGreatDoorLN05
namespace Go.Proofs.YtcgihpfanfbonaaGreatDoor
open Go.RowKit Go.Maps
set_option linter.unusedVariables false
set_option linter.unusedSimpArgs false

/-- Is a policy too long to be printed? -/
def longP (p : Pol) : Bool := decide (6 < p.2.length) || (p.1 :: p.2).any fun s => decide (12 < s.size)
def longL (x : Lab) : Bool := decide (200 < x.length) || x.any longP
def colonT : Txt := ⟨#[58]⟩
def commaT : Txt := ⟨#[44]⟩
def semiT : Txt := ⟨#[59]⟩
def openT : Txt := ⟨#[123]⟩
def shutT : Txt := ⟨#[125]⟩
def polT (p : Pol) : Txt := p.1 ++ colonT ++ joinT p.2 commaT
def printT (x : Lab) : Txt := openT ++ joinT (x.map polT) semiT ++ shutT
def printE (x : Lab) : Int := if longL x then 2 else 0
def printS (x : Lab) : Txt := if longL x then ByteArray.empty else printT x
theorem long_many {x : Lab} (h : 200 < x.length) : longL x = true := by simp [longL, h]
theorem long_at {x : Lab} {k : Nat} (hk : k < x.length) (h : longP x[k] = true) : longL x = true := by
  unfold longL
  rw [Bool.or_eq_true, List.any_eq_true]
  exact .inr ⟨_, List.getElem_mem hk, h⟩
theorem long_none {x : Lab} (h0 : ¬ 200 < x.length) (h : ∀ j (hj : j < x.length), longP x[j] = false) : longL x = false := by
  unfold longL
  rw [Bool.or_eq_false_iff, List.any_eq_false]
  refine ⟨by simp; omega, fun p hp => ?_⟩
  obtain ⟨j, hj, rfl⟩ := List.getElem_of_mem hp
  simp [h j hj]
theorem longP_many {p : Pol} (h : 6 < p.2.length) : longP p = true := by simp [longP, h]
theorem longP_at {p : Pol} {ys : List Txt} (e : p.1 :: p.2 = ys) {k : Nat} (hk : k < ys.length) (h : 12 < ys[k].size) : longP p = true := by
  subst e
  unfold longP
  rw [Bool.or_eq_true, List.any_eq_true]
  exact .inr ⟨_, List.getElem_mem hk, by simpa using h⟩
theorem longP_none {p : Pol} {ys : List Txt} (e : p.1 :: p.2 = ys) (h0 : ¬ 6 < p.2.length) (h : ∀ j (hj : j < ys.length), ¬ 12 < ys[j].size) : longP p = false := by
  subst e
  unfold longP
  rw [Bool.or_eq_false_iff, List.any_eq_false]
  refine ⟨by simp; omega, fun s hs => ?_⟩
  obtain ⟨j, hj, rfl⟩ := List.getElem_of_mem hs
  have := h j hj
  simp; omega
theorem longP_false {p : Pol} (h : longP p = false) : p.2.length ≤ 6 ∧ p.1.size ≤ 12 ∧ ∀ s ∈ p.2, s.size ≤ 12 := by
  unfold longP at h
  rw [Bool.or_eq_false_iff, List.any_eq_false] at h
  refine ⟨by have := h.1; simp at this; omega, by have := h.2 p.1 (by simp); simp at this; omega, fun s hs => ?_⟩
  have := h.2 s (by simp [hs])
  simp at this; omega
theorem polT_size {p : Pol} (h : longP p = false) : (polT p).size ≤ 91 := by
  obtain ⟨h1, h2, h3⟩ := longP_false h
  have := join_len p.2 commaT 12 h3
  have e : commaT.size = 1 := rfl
  have e2 : colonT.size = 1 := rfl
  unfold polT
  rw [ByteArray.size_append, ByteArray.size_append, joinT_size, e2]
  have : p.2.length * (12 + commaT.size) ≤ 6 * 13 := Nat.mul_le_mul h1 (by rw [e]; decide)
  omega

set_option maxHeartbeats 1000000 in
set_option maxRecDepth 100000 in
theorem print_calls (x : Lab) (u : Value) (w : World) (hu : Lbl w x u) :
    Calls Tryz.prog 39 #[u] w fun e w' => e = .returned (.tuple #[.string (printS x), .int .i64 (printE x)]) ∧ Below w.heap.size w w' := by
  obtain ⟨b, o, c, p, rfl, hlc1, hcm1, hp, hcells⟩ := hu.cells
  clear hu
  obtain ⟨t0, hi, hz0, hz1, hz2⟩ := info_parts Tryz.info_stringL
  by_cases h0 : x.length ≤ 200
  · have h0' : (x.length : Int) ≤ 200 := by omega
    go_enter Tryz.func39, Tryz.ntmps39
    go_wp2
    go_loopw [4, 6, 8, 14] (fun y _ _ i wr => ∃ k : Nat, k ≤ x.length ∧ i = .int .i64 k ∧ Below w.heap.size w wr ∧ wr.ownsRow w.heap.size 9 1 y k ((x.take k).map fun p => .string (polT p)) ∧ Hid (∀ j (hj : j < x.length), j < k → longP x[j] = false)) (fun _ _ _ i _ => x.length - (intOf i).toNat)
    case atStart => exact ⟨0, Nat.zero_le _, rfl, Below.refl _ _, World.ownsRow_nil _ _ _ _, fun j _ hj => absurd hj (Nat.not_lt_zero _)⟩
    case round =>
      obtain ⟨k, hk, rfl, hb, hown, HN⟩ := hrel
      by_cases hlt : k < x.length
      · obtain ⟨ur, hca, hcb, hur⟩ := hcells k hlt
        have hcell1 : wr.cell? ⟨b, o + k * 2, none⟩ = some (.string x[k].1) := (hb.cell (cell_lt hca)).trans hca
        have hcell2 : wr.cell? ⟨b, o + k * 2 + 1, none⟩ = some ur := (hb.cell (cell_lt hcb)).trans hcb
        obtain rfl := hp (by omega)
        clear hp hcells hca hcb
        obtain ⟨pr, cr, xs, rfl, hl1, hl2, hrow, hpn, hnews⟩ := SliceOf.rows (by decide) hur
        by_cases h6 : 6 < x[k].2.length
        · have h6' : 6 < (x[k].2.length : Int) := by omega
          have HX : Hid (longL x = true) := long_at hlt (longP_many h6)
          go_wp2
          go_ret2
          exact ⟨by unfold printS printE; rw [HX.out]; rfl, hb.alloc hb.size _⟩
        · have h6' : (x[k].2.length : Int) ≤ 6 := by omega
          have hsize := hb.size
          have hlen6 : x[k].2.length ≤ 6 := by omega
          obtain ⟨W1, eW⟩ : ∃ W1, wr.alloc (.cells #[.string x[k].1, .slice pr x[k].2.length cr] 37) = W1 := ⟨_, rfl⟩
          obtain ⟨z1, hW1, m1⟩ := boxes1 eW
          have hm0 := m1 0
          have hm1 := m1 1
          simp only [List.getElem?_toArray, List.getElem?_cons_zero, List.getElem?_cons_succ] at hm0 hm1
          have hbA : Below w.heap.size w W1 := hb.trans (hW1.mono hb.size)
          have hk3 := (keeps_of_below hbA).trans (keeps_of_below ((Below.refl W1.heap.size W1).alloc (Nat.le_refl _) (.cells #[.string x[k].1] 9)))
          have hown0 : (W1.alloc (.cells #[.string x[k].1] 9)).ownsRow w.heap.size 9 1 (.slice (some ⟨wr.heap.size + 1, 0, none⟩) 1 1) 1 [.string x[k].1] := by
            have := World.ownsRow_lit (base := w.heap.size) (e := 9) (size := 1) W1 #[.string x[k].1] 1 hbA.size (by unfold maxLen; decide) rfl
            rw [z1] at this
            simpa using this
          have HROW := Lib.hid hrow
          have HNEWS := Lib.hid hnews
          have HBA := Lib.hid hbA
          have HW1 := Lib.hid hW1
          have HOWN := Lib.hid (own_below hown hW1)
          have HM0 := Lib.hid hm0
          have HM1 := Lib.hid hm1
          have HUR := Lib.hid (hur.stays (keeps_of_below hbA))
          clear hrow hnews hur hbA hW1 hown m1
          go_wp2_with (at_builtin; refine wpList_append_src _ rfl _ _ 22 rfl w.heap.size 9 t0 (.string ByteArray.empty) 1 16 Tryz.underlying22 hi hz0 hz1 hz2 rfl (by decide) _ _ _ rfl hown0 pr x[k].2.length cr xs rfl HROW.out.length hpn ?c1 (Rows.plain txt_plain HROW.out) ?c2 ?c3 ?c4 ?_)
          case c1 => exact fun ad e j u hu => cell_keep hk3 (HNEWS.out ad e j u hu)
          case c2 => unfold maxLen; omega
          case c3 => omega
          case c4 => simp; omega
          · intro v' w5 hown' hgrow
            have hS : Strs w5 (x[k].1 :: x[k].2) v' := strs_of_own hown' rfl (Rows.free (One.free _) HROW.out)
            have hb5 : Below W1.heap.size W1 w5 := ((Below.refl _ _).alloc (Nat.le_refl _) _).grown hgrow (by simp) (fun q hq => by simp [Value.ownBlock] at hq; omega)
            generalize hys : x[k].1 :: x[k].2 = ys at hS
            have HYS := Lib.hid hys
            obtain ⟨b7, o7, c7, p7, rfl, hl7, hc7, hp7, hcells7⟩ := hS.cells
            obtain rfl := hp7 (by rw [← hys]; simp)
            have HB5 := Lib.hid hb5
            clear hys hown' hgrow hS hk3 hcell1 hcell2 hb hp7 hb5
            go_wp2
            go_loop [8, 29] (fun _ i => ∃ m : Nat, m ≤ ys.length ∧ i = .int .i64 m ∧ Hid (∀ j (hj : j < ys.length), j < m → ¬ 12 < ys[j].size)) (fun _ i => ys.length - (intOf i).toNat)
            case atStart => exact ⟨0, Nat.zero_le _, rfl, fun j _ hj => absurd hj (Nat.not_lt_zero _)⟩
            case round =>
              obtain ⟨m, hm, rfl, HM⟩ := hrel
              by_cases hltm : m < ys.length
              · have hcell := hcells7 m hltm
                clear hcells7
                by_cases hs : 12 < ys[m].size
                · have HX : Hid (longL x = true) := long_at hlt (longP_at HYS.out hltm hs)
                  have hs' : 12 < (ys[m].size : Int) := by omega
                  go_wp2
                  go_ret2
                  exact ⟨by unfold printS printE; rw [HX.out]; rfl, HBA.out.trans (HB5.out.mono HBA.out.size)⟩
                · have hs' : (ys[m].size : Int) ≤ 12 := by omega
                  have HS := Lib.hid hs
                  go_wp2
                  go_round
                  case rel =>
                    refine ⟨m + 1, by omega, by go_num, fun j hj hj' => ?_⟩
                    by_cases e : j = m
                    · subst e; exact HS.out
                    · exact HM.out j hj (by omega)
                  case measure => simp [intOf]; omega
              · have HX : Hid (longP x[k] = false) := longP_none HYS.out h6 fun j hj => HM.out j hj (by omega)
                clear hcells7
                go_wp2
                have hzW := z1
                obtain ⟨ext, hx1, hx2⟩ := exists_ext w5
                have k0 : ∀ y, (ext y).cell? ⟨wr.heap.size, 0, none⟩ = some (.string x[k].1) := fun y => ((HB5.out.trans ((hx1 y).mono HB5.out.size)).cell (p := ⟨wr.heap.size, 0, none⟩) (by simp only; omega)).trans HM0.out
                have k1 : ∀ y, (ext y).cell? ⟨wr.heap.size, 1, none⟩ = some (.slice pr x[k].2.length cr) := fun y => ((HB5.out.trans ((hx1 y).mono HB5.out.size)).cell (p := ⟨wr.heap.size, 1, none⟩) (by simp only; omega)).trans HM1.out
                have HJ : Hid (∀ y, Calls Tryz.prog 45 #[.slice pr x[k].2.length cr, .string commaT] (ext y) fun e w'' => e = .returned (.string (joinT x[k].2 commaT)) ∧ ∃ z, w'' = ext z) := fun y => by
                  have hl := join_len x[k].2 commaT 12 (longP_false HX.out).2.2
                  have e1 : commaT.size = 1 := rfl
                  have hm : x[k].2.length * (12 + commaT.size) ≤ 6 * 13 := Nat.mul_le_mul hlen6 (by rw [e1]; decide)
                  refine (join_calls x[k].2 commaT _ (ext y) (HUR.out.stays (keeps_of_below (HB5.out.trans ((hx1 y).mono HB5.out.size)))) (by omega) (by omega)).mono fun e w'' ⟨h1, h2⟩ => ⟨h1, w'', hx2 _ ((hx1 y).trans (h2.mono (hx1 y).size))⟩
                have hOx : ∀ y, (ext y).ownsRow w.heap.size 9 1 _ k ((x.take k).map fun p => .string (polT p)) := fun y => own_below HOWN.out (HB5.out.trans ((hx1 y).mono HB5.out.size))
                have HOX := Lib.hid hOx
                have hbx : ∀ y, Below w.heap.size w (ext y) := fun y => HBA.out.trans ((HB5.out.trans ((hx1 y).mono HB5.out.size)).mono HBA.out.size)
                have HBX := Lib.hid hbx
                have hd := hx2 _ (Below.refl w5.heap.size w5).drew
                have HD := Lib.hid hd
                have hs1 : x[k].1.size ≤ 12 := (longP_false HX.out).2.1
                have hs2 : (joinT x[k].2 commaT).size ≤ 91 := by
                  have h := polT_size HX.out
                  unfold polT at h
                  rw [ByteArray.size_append] at h
                  omega
                clear hx1 hx2 hd hOx hbx
                refine wp_region_moved_tail 8 (fun w' => ∃ y, w' = ext y) (by kernel_rfl) rfl rfl (fun _ _ _ _ h => h) (by kernel_rfl) ⟨_, HD.out⟩ ?_
                simp only [List.take_succ_cons, List.take_zero, List.drop_succ_cons, List.drop_zero, Act.put, Act.eval, List.setIfInBounds_toArray, List.set_cons_succ, List.set_cons_zero, Array.getD_eq_getD_getElem?, List.getElem?_toArray, List.getElem?_cons_succ, List.getElem?_cons_zero, Option.getD_some]
                repeat go_big_quiet_step ((go_at_call 45; exact HJ.out _))
                refine wpQuiet_nil ?_
                rintro w' ⟨y, rfl⟩
                have hown6 := (HOX.out y)
                have hsz6 := (HBX.out y).size
                clear k0 k1
                go_wp2_with (at_builtin; refine wpList_append_own _ rfl _ _ 22 rfl w.heap.size 9 t0 (.string ByteArray.empty) 1 16 Tryz.underlying22 hi hz0 hz1 hz2 rfl (by decide) _ _ _ rfl (hown6.alloc _) ⟨(ext y).heap.size, 0, none⟩ 1 1 [.string (x[k].1 ++ ⟨#[58]⟩ ++ joinT x[k].2 commaT)] rfl rfl ?c1 ?c2 ?c3 ?c4 ?c5 ?_)
                case c1 =>
                  intro j u hj
                  match j, hj with
                  | 0, hj => simp at hj; subst hj; simp [Addr.add]
                case c2 => intro u hu; simp at hu; subst hu; rfl
                case c3 => unfold maxLen; omega
                case c4 => omega
                case c5 => simp; omega
                · intro v' w6 hown' hgrow6 _
                  go_wp2
                  go_roundw
                  case rel =>
                    refine ⟨k + 1, by omega, by go_num, ((HBX.out y).alloc (HBX.out y).size _).grown hgrow6 (by have := (HBX.out y).size; simp; omega) (fun q hq => (hown6.lt q hq).1), ?_, fun j hj hj' => ?_⟩
                    · rw [List.take_succ_eq_append_getElem hlt, List.map_append, List.map_take]
                      exact hown'
                    · by_cases e : j = k
                      · subst e; exact HX.out
                      · exact HN.out j hj (by omega)
                  case measure => simp [intOf]; omega
      · obtain rfl : k = x.length := by omega
        have HX : Hid (longL x = false) := long_none (by omega) fun j hj => HN.out j hj (by omega)
        rw [List.take_length] at hown
        have hS : Strs wr (x.map polT) _ := Strs.of_owns (l := x.map polT) (by rw [List.length_map, List.map_map]; exact hown)
        have hn : ∀ s ∈ x.map polT, s.size ≤ 91 := fun s hs => by
          obtain ⟨p, hp, rfl⟩ := List.mem_map.1 hs
          obtain ⟨j, hj, rfl⟩ := List.getElem_of_mem hp
          exact polT_size (HN.out j hj hj)
        have hl := join_len (x.map polT) semiT 91 hn
        have e1 : semiT.size = 1 := rfl
        have hm : (x.map polT).length * (91 + semiT.size) ≤ 200 * 92 := Nat.mul_le_mul (by rw [List.length_map]; exact h0) (by rw [e1]; decide)
        have HJ : Hid (Calls Tryz.prog 45 #[_, .string semiT] wr fun e w' => e = .returned (.string (joinT (x.map polT) semiT)) ∧ Below wr.heap.size wr w') := join_calls (x.map polT) semiT _ wr hS (by omega) (by rw [List.length_map]; omega)
        have hs2 : (joinT (x.map polT) semiT).size ≤ 18400 := by rw [joinT_size]; omega
        clear hS hl hm hn e1 hp hcells hown
        go_wp2_with (fail)
        refine HJ.out.mono ?_
        rintro e w1 ⟨rfl, hb1⟩
        go_wp2
        go_ret2
        exact ⟨by unfold printS printE; rw [HX.out]; rfl, hb.trans (hb1.mono hb.size)⟩
  · have h0' : 200 < (x.length : Int) := by omega
    have HX : Hid (longL x = true) := long_many (by omega)
    go_enter Tryz.func39, Tryz.ntmps39
    go_wp2
    go_ret2
    exact ⟨by unfold printS printE; rw [HX.out]; rfl, Below.refl _ _⟩
end Go.Proofs.YtcgihpfanfbonaaGreatDoor
namespace Go.Proofs.YtcgihpfanfbonaaGreatDoor
open Go.RowKit Go.Maps
set_option linter.unusedVariables false
set_option linter.unusedSimpArgs false

def aT : Txt := ⟨#[97]⟩
def bT : Txt := ⟨#[98]⟩
def abL : List Txt := [aT, bT]
def twoL : Lab := [(aT, [bT]), (bT, [])]
theorem two_reads : labE abL [] twoL = 0 ∧ readsR abL [] twoL = [bT] := by decide +kernel
theorem two_print : printE twoL = 0 ∧ printS twoL = ⟨#[123, 97, 58, 98, 59, 98, 58, 125]⟩ := by decide +kernel
theorem two_flows : flowsE abL [] [] twoL = 0 ∧ flowsR abL [] [] twoL = true := by decide +kernel
theorem nil_reads {α : Type} (E : Enc α) (k : Nat) (w : World) : SliceOf E k w [] (.slice none 0 0) := ⟨none, 0, rfl, by simp, by unfold maxLen; omega, Or.inl rfl⟩
theorem ab_ok : okList okTxt abL := fun s hs => by simp [abL] at hs; rcases hs with rfl | rfl <;> (unfold okTxt; decide)
theorem two_ok : okLab twoL := fun p hp => by
  simp [twoL] at hp
  rcases hp with rfl | rfl
  · exact ⟨by unfold okTxt; decide, fun s hs => by simp at hs; subst hs; unfold okTxt; decide⟩
  · exact ⟨by unfold okTxt; decide, fun s hs => by simp at hs⟩
theorem objT_at (w : World) (l : List Txt) (e : TypeId) (n : Nat) (hn : w.heap.size = n) (hl : l.length ≤ 9223372036854775807) : Strs (w.alloc (.cells (l.map Value.string).toArray e)) l (.slice (some ⟨n, 0, none⟩) l.length l.length) := by
  subst hn; exact strs_new w l e hl

set_option maxHeartbeats 1000000 in
theorem labelled_calls (w : World) : Calls Tryz.prog 10 #[] w fun e w' => e = .returned (.bool true) ∧ Below w.heap.size w w' := by
  obtain ⟨W2, eW⟩ : ∃ W2, (w.alloc (.cells #[.string ⟨#[98]⟩] 9)).alloc (.cells #[.string ⟨#[97]⟩, .slice (some ⟨w.heap.size, 0, none⟩) 1 1, .string ⟨#[98]⟩, .slice none 0 0] 37) = W2 := ⟨_, rfl⟩
  obtain ⟨z2, hW, m1, m2⟩ := boxes2 eW
  have hA : Strs W2 [bT] (.slice (some ⟨w.heap.size, 0, none⟩) 1 1) := by
    have h := (objT_at w [bT] 9 _ rfl (by decide)).stays (keeps_of_below ((Below.refl _ _).alloc (Nat.le_refl _) (.cells #[.string ⟨#[97]⟩, .slice (some ⟨w.heap.size, 0, none⟩) 1 1, .string ⟨#[98]⟩, .slice none 0 0] 37)))
    rw [← eW]
    exact h
  have hL : Lbl W2 twoL (.slice (some ⟨w.heap.size + 1, 0, none⟩) 2 2) := by
    refine ⟨_, _, rfl, by decide, by unfold maxLen; decide, Or.inr ⟨_, 0, rfl, fun i hi => ?_⟩⟩
    match i, hi with
    | 0, _ =>
      refine ⟨[.string aT, .slice (some ⟨w.heap.size, 0, none⟩) 1 1], ⟨[.string aT], _, rfl, rfl, ⟨_, rfl, hA⟩⟩, rfl, fun j x hx => ?_⟩
      match j, hx with
      | 0, hx => simp at hx; subst hx; exact m2 0
      | 1, hx => simp at hx; subst hx; exact m2 1
    | 1, _ =>
      refine ⟨[.string bT, .slice none 0 0], ⟨[.string bT], _, rfl, rfl, ⟨_, rfl, nil_reads _ _ _⟩⟩, rfl, fun j x hx => ?_⟩
      match j, hx with
      | 0, hx => simp at hx; subst hx; exact m2 2
      | 1, hx => simp at hx; subst hx; exact m2 3
  have HW := Lib.hid hW
  have HL := Lib.hid hL
  have HZ := Lib.hid z2
  clear hW hL z2 m1 m2 hA
  go_enter Tryz.func10, Tryz.ntmps10
  have HAB : Hid (∀ W : World, Strs (W.alloc (.cells #[.string ⟨#[97]⟩, .string ⟨#[98]⟩] 9)) abL (.slice (some ⟨W.heap.size, 0, none⟩) 2 2)) := fun W => objT_at W abL 9 _ rfl (by decide)
  have HB1 : Hid (∀ W : World, Strs (W.alloc (.cells #[.string ⟨#[98]⟩] 9)) [bT] (.slice (some ⟨W.heap.size, 0, none⟩) 1 1)) := fun W => objT_at W [bT] 9 _ rfl (by decide)
  go_wp2_with (fail)
  have hb2 : Below W2.heap.size W2 (W2.alloc (.cells #[.string ⟨#[97]⟩, .string ⟨#[98]⟩] 9)) := (Below.refl _ _).alloc (Nat.le_refl _) _
  refine (reads_calls abL [] twoL _ _ _ _ (HAB.out W2) (nil_reads _ _ _) (HL.out.stays (keeps_of_below hb2)) ab_ok two_ok).mono ?_
  rintro e w3 ⟨y, rfl, hy, hb3⟩
  rw [two_reads.1]
  rw [two_reads.2] at hy
  have hy' := hy
  obtain ⟨b, o, c, p, rfl, hlc, hcm, hp, _⟩ := hy.cells
  obtain rfl := hp (by decide)
  have e3 : [bT].length = 1 := rfl
  rw [e3] at hy' ⊢
  have hb23 : Below W2.heap.size W2 w3 := hb2.trans (hb3.mono hb2.size)
  have HB23 := Lib.hid hb23
  have HY := Lib.hid hy'
  clear hy hy' e3 hb2 hb3 hb23
  go_wp2_with (fail)
  refine (print_calls twoL _ _ (HL.out.stays (keeps_of_below HB23.out))).mono ?_
  rintro e w4 ⟨rfl, hb4⟩
  rw [two_print.1, two_print.2]
  have hb24 : Below W2.heap.size W2 w4 := HB23.out.trans (hb4.mono HB23.out.size)
  have HB24 := Lib.hid hb24
  have HB4 := Lib.hid hb4
  clear hb4 hb24
  go_wp2_with (fail)
  have hb5 : Below w4.heap.size w4 (w4.alloc (.cells #[.string ⟨#[97]⟩, .string ⟨#[98]⟩] 9)) := (Below.refl _ _).alloc (Nat.le_refl _) _
  refine (flows_calls abL [] [] twoL _ _ _ _ _ (HAB.out w4) (nil_reads _ _ _) (nil_reads _ _ _) (HL.out.stays (keeps_of_below (HB24.out.trans (hb5.mono HB24.out.size)))) ab_ok (fun _ h => by simp at h) two_ok).mono ?_
  rintro e w6 ⟨rfl, hb6⟩
  rw [two_flows.1, two_flows.2]
  have hb46 : Below w4.heap.size w4 w6 := hb5.trans (hb6.mono hb5.size)
  have HB46 := Lib.hid hb46
  clear hb46 hb5 hb6
  go_wp2_with (fail)
  have hb7 : Below w6.heap.size w6 (w6.alloc (.cells #[.string ⟨#[98]⟩] 9)) := (Below.refl _ _).alloc (Nat.le_refl _) _
  have hb36 : Below w3.heap.size w3 w6 := HB4.out.trans (HB46.out.mono HB4.out.size)
  refine (equalS_calls [bT] [bT] _ _ _ (HY.out.stays (keeps_of_below (hb36.trans (hb7.mono hb36.size)))) (HB1.out w6)).mono ?_
  rintro e w8 ⟨rfl, n, rfl⟩
  have e4 : ([bT] == [bT]) = true := by rw [beq_iff_eq]
  rw [e4]
  have hend : Below w.heap.size w ((w6.alloc (.cells #[.string ⟨#[98]⟩] 9)).drewN n) := by
    have h1 : Below W2.heap.size W2 w6 := HB24.out.trans (HB46.out.mono HB24.out.size)
    have h2 : Below w.heap.size w w6 := HW.out.trans (h1.mono HW.out.size)
    exact below_drewN (h2.alloc h2.size _) n
  have HEND := Lib.hid hend
  clear hend hb7 hb36
  go_wp2
  go_ret
  exact ⟨rfl, HEND.out⟩
end Go.Proofs.YtcgihpfanfbonaaGreatDoor
