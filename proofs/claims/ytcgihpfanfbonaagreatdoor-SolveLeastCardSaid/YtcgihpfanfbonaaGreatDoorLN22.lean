/-
  The reference's LessOf; its SameLabel at labels that are one. slices.Grow and Concat over policies. label.Normal and label.Join.
-/
import Derived.Test.YtcgihpfanfbonaaGreatDoorLN21
import Derived.Test.YtcgihpfanfbonaaGreatDoorLN03
import Derived.Test.YtcgihpfanfbonaaGreatDoorLN08
import Derived.Test.YtcgihpfanfbonaaGreatDoorLN05
namespace Go.Proofs.YtcgihpfanfbonaaGreatDoor
open Go.RowKit Go.Maps
set_option linter.unusedVariables false
set_option linter.unusedSimpArgs false

def leftTo (q : Txt → Txt → Bool) (by_ : List Txt) (o : Txt) (m : Nat) : Bool := anyBy (by_.take m) fun s => q s o
theorem leftTo_succ (q : Txt → Txt → Bool) {by_ : List Txt} (o : Txt) {m : Nat} (hm : m < by_.length) : leftTo q by_ o (m + 1) = (leftTo q by_ o m || q by_[m] o) := by
  unfold leftTo
  rw [List.take_succ_eq_append_getElem hm, Bool.eq_iff_iff, any_iff, Bool.or_eq_true, any_iff]
  constructor
  · rintro ⟨s, hs, h⟩
    rcases List.mem_append.1 hs with hs | hs
    · exact .inl ⟨s, hs, h⟩
    · rw [List.mem_singleton.1 hs] at h; exact .inr h
  · rintro (⟨s, hs, h⟩ | h)
    · exact ⟨s, List.mem_append_left _ hs, h⟩
    · exact ⟨_, List.mem_append_right _ (List.mem_singleton.2 rfl), h⟩
/-- The policies that stay so far. -/
def stayTo (q : Txt → Txt → Bool) (by_ : List Txt) (x : Lab) (k : Nat) : Lab := (x.take k).filter fun p => !leftOut q by_ p
theorem stayTo_le (q : Txt → Txt → Bool) (by_ : List Txt) (x : Lab) (k : Nat) : (stayTo q by_ x k).length ≤ k := by
  unfold stayTo; exact Nat.le_trans (List.length_filter_le _ _) (List.length_take_le _ _)
theorem stayTo_hit {q : Txt → Txt → Bool} {by_ : List Txt} {x : Lab} {k : Nat} (hk : k < x.length) (h : leftOut q by_ x[k] = false) : stayTo q by_ x (k + 1) = stayTo q by_ x k ++ [x[k]] := by
  unfold stayTo; rw [List.take_succ_eq_append_getElem hk, List.filter_append]; simp [h]
theorem stayTo_miss {q : Txt → Txt → Bool} {by_ : List Txt} {x : Lab} {k : Nat} (hk : k < x.length) (h : leftOut q by_ x[k] = true) : stayTo q by_ x (k + 1) = stayTo q by_ x k := by
  unfold stayTo; rw [List.take_succ_eq_append_getElem hk, List.filter_append]; simp [h]

set_option maxHeartbeats 8000000 in
set_option maxRecDepth 100000 in
theorem refLess_calls (acts : List (Txt × Txt)) (x : Lab) (by_ : List Txt) (u t vb : Value) (w : World) (hu : Prs w acts u) (ht : Lbl w x t) (hb : Strs w by_ vb) (hn : acts.length ≤ 10) (hf : FullL x) (h6 : ∀ p ∈ x, p.2.length ≤ 6) (h12 : ∀ p ∈ x, p.1.size ≤ 12 ∧ ∀ s ∈ p.2, s.size ≤ 12) (hx : x.length ≤ 1000000) :
    Calls Tryz.prog 17 #[u, t, vb] w fun e w' => ∃ y, e = .returned y ∧ Lbl w' (normL (actsF acts) (x.filter fun p => !leftOut (actsF acts) by_ p)) y ∧ Below w.heap.size w w' := by
  have hu0 := hu
  obtain ⟨b1, o1, c1, p1, rfl, _⟩ := hu.cells
  obtain ⟨b2, o2, c2, p2, rfl, hlc2, hcm2, hp2, hcells2⟩ := ht.cells
  obtain ⟨b3, o3, c3, p3, rfl, hlc3, hcm3, hp3, hcells3⟩ := hb.cells
  obtain ⟨t1, hi', hz0', hz1', hz2'⟩ := info_parts Tryz.info_policy
  have HU : Hid (∀ W, Below w.heap.size w W → Prs W acts (.slice p1 acts.length c1)) := fun W h => hu0.stays (keeps_of_below h)
  have HP2 := Lib.hid hp2
  have HC2 := Lib.hid hcells2
  have HP3 := Lib.hid hp3
  have HC3 := Lib.hid hcells3
  have HN := Lib.hid hn
  have HRN : Hid (∀ W y', Below w.heap.size w W → Lbl W (stayTo (actsF acts) by_ x x.length) y' → Calls Tryz.prog 12 #[.slice p1 acts.length c1, y'] W fun e w' => ∃ y, e = .returned y ∧ Lbl w' (normL (actsF acts) (x.filter fun p => !leftOut (actsF acts) by_ p)) y ∧ Below W.heap.size W w') := fun W y' h hy => by
    have e : stayTo (actsF acts) by_ x x.length = x.filter fun p => !leftOut (actsF acts) by_ p := by unfold stayTo; rw [List.take_length]
    rw [e] at hy
    have hin : ∀ p ∈ (x.filter fun p => !leftOut (actsF acts) by_ p), p ∈ x := fun p hp => (List.mem_filter.1 hp).1
    exact refNormal_calls acts _ _ _ W (hu0.stays (keeps_of_below h)) hy hn (fun p hp => hf p (hin p hp)) (fun p hp => h6 p (hin p hp)) (fun p hp => h12 p (hin p hp)) (Nat.le_trans (List.length_filter_le _ _) hx)
  have HX := Lib.hid hx
  clear hu hu0 ht hb hp2 hcells2 hp3 hcells3 hn hf h6 h12 hx
  go_enter Tryz.func17, Tryz.ntmps17
  go_wp2
  go_loopw [7, 15] (fun y i ws => ∃ (k : Nat) (yv : Value) (wo : World), k ≤ x.length ∧ i = .int .i64 k ∧ yv = y ∧ wo = ws ∧ Hid (Below w.heap.size w wo) ∧ ∃ xs, Hid (wo.ownsRow w.heap.size 37 2 yv (stayTo (actsF acts) by_ x k).length xs) ∧ Hid (Rows pol 2 w (stayTo (actsF acts) by_ x k) xs)) (fun _ i _ => x.length - (intOf i).toNat)
  case atStart => exact ⟨0, _, _, Nat.zero_le _, rfl, rfl, rfl, Below.refl _ _, [], World.ownsRow_nil _ _ _ _, rfl⟩
  case round =>
    obtain ⟨k, yv, wq, hk, rfl, rfl, rfl, HBR, xs, HOWN, HROW⟩ := hrel
    by_cases hlt : k < x.length
    · obtain ⟨us, g0, g1, hus⟩ := HC2.out k hlt
      have e0 : wq.cell? ⟨b2, o2 + k * 2, none⟩ = some (.string x[k].1) := (HBR.out.cell (cell_lt g0)).trans g0
      have e1 : wq.cell? ⟨b2, o2 + k * 2 + 1, none⟩ = some us := (HBR.out.cell (cell_lt g1)).trans g1
      obtain rfl := HP2.out (by omega)
      have HUK := Lib.hid hus
      obtain ⟨b4, o4, c4, p4, rfl, _⟩ := hus.cells
      obtain ⟨W5, eW5⟩ : ∃ W5, wq.alloc (.cells #[.string x[k].1, .slice p4 x[k].2.length c4] 37) = W5 := ⟨_, rfl⟩
      obtain ⟨z5, hW5, m5⟩ := boxes1 eW5
      have h50 := m5 0
      have h51 := m5 1
      simp only [List.getElem?_toArray, List.getElem?_cons_zero, List.getElem?_cons_succ] at h50 h51
      have HB5 : Hid (Below w.heap.size w W5) := HBR.out.trans (hW5.mono HBR.out.size)
      have HW5 := Lib.hid hW5
      have HZ5 := Lib.hid z5
      have H50 := Lib.hid h50
      have H51 := Lib.hid h51
      clear m5 hW5 z5 hus g0 g1 h50 h51
      go_wp2
      go_loopw [10, 21] (fun g j ws => ∃ (m : Nat) (wr : World), m ≤ by_.length ∧ j = .int .i64 m ∧ g = .bool (leftTo (actsF acts) by_ x[k].1 m) ∧ wr = ws ∧ Hid (Below W5.heap.size W5 wr)) (fun _ j _ => by_.length - (intOf j).toNat)
      case atStart => exact ⟨0, _, Nat.zero_le _, rfl, rfl, rfl, Below.refl _ _⟩
      case round =>
        clear e0 e1
        obtain ⟨m, wr, hm, rfl, rfl, rfl, HBI⟩ := hrel
        have hz5 := HZ5.out
        have f0 : wr.cell? ⟨wq.heap.size, 0, none⟩ = some (.string x[k].1) := (HBI.out.cell (p := ⟨wq.heap.size, 0, none⟩) (by simp only; omega)).trans H50.out
        have f1 : wr.cell? ⟨wq.heap.size, 1, none⟩ = some (.slice p4 x[k].2.length c4) := (HBI.out.cell (p := ⟨wq.heap.size, 1, none⟩) (by simp only; omega)).trans H51.out
        have HBW : Hid (Below w.heap.size w wr) := HB5.out.trans (HBI.out.mono HB5.out.size)
        by_cases hmt : m < by_.length
        · have g0 := HC3.out m hmt
          have g0' : wr.cell? ⟨b3, o3 + m, none⟩ = some (.string by_[m]) := (HBW.out.cell (cell_lt g0)).trans g0
          obtain rfl := HP3.out (by omega)
          have HS := Lib.hid (leftTo_succ (actsF acts) x[k].1 hmt)
          have HAC : Hid (Calls Tryz.prog 53 #[.slice p1 acts.length c1, .string by_[m], .string x[k].1] wr fun e w' => e = .returned (.bool (actsF acts by_[m] x[k].1)) ∧ Below wr.heap.size wr w') := refActs_calls acts _ _ _ wr (HU.out wr HBW.out) (by have := HN.out; omega)
          cases hg : leftTo (actsF acts) by_ x[k].1 m with
          | true =>
            have HXX : Hid (Value.bool true = .bool (leftTo (actsF acts) by_ x[k].1 (m + 1))) := by unfold Hid; rw [HS.out, hg]; rfl
            clear hg HAC HS g0
            go_wp2
            go_roundw
            case rel => exact ⟨m + 1, _, by omega, by go_num, HXX.out, rfl, HBI⟩
            case measure => simp [intOf]; omega
          | false =>
            have HXX : Hid (Value.bool (actsF acts by_[m] x[k].1) = .bool (leftTo (actsF acts) by_ x[k].1 (m + 1))) := by unfold Hid; rw [HS.out, hg]; rfl
            clear hg HS g0
            go_wp2_with (fail)
            refine HAC.out.mono ?_
            rintro e w7 ⟨rfl, hb7⟩
            have HB7 := Lib.hid (HBI.out.trans (hb7.mono HBI.out.size))
            clear hb7
            go_wp2
            go_roundw
            case rel => exact ⟨m + 1, _, by omega, by go_num, HXX.out, rfl, HB7⟩
            case measure => simp [intOf]; omega
        · obtain rfl : m = by_.length := by omega
          have hlo : leftTo (actsF acts) by_ x[k].1 by_.length = leftOut (actsF acts) by_ x[k] := by unfold leftTo leftOut; rw [List.take_length]
          have hbr2 : Below wq.heap.size wq wr := HW5.out.trans (HBI.out.mono HW5.out.size)
          have hOW := own_below HOWN.out hbr2
          have hle := stayTo_le (actsF acts) by_ x k
          have hxl := HX.out
          have hbs := HBW.out.size
          rw [hlo]
          cases hg : leftOut (actsF acts) by_ x[k] with
          | true =>
            have HXX : Hid (stayTo (actsF acts) by_ x (k + 1) = stayTo (actsF acts) by_ x k) := stayTo_miss hlt hg
            have HO := Lib.hid hOW
            clear hlo hg hbr2 hmt hOW
            go_wp2
            go_roundw
            case rel =>
              refine ⟨k + 1, _, _, by omega, by go_num, rfl, rfl, HBW, xs, ?_, ?_⟩
              · rw [HXX.out]; exact HO
              · rw [HXX.out]; exact HROW
            case measure => simp [intOf]; omega
          | false =>
            have HXX : Hid (stayTo (actsF acts) by_ x (k + 1) = stayTo (actsF acts) by_ x k ++ [x[k]]) := stayTo_hit hlt hg
            clear hlo hg hbr2 hmt
            go_wp2_with (at_builtin; refine wpList_append_own _ rfl _ _ 25 rfl w.heap.size 37 t1 (.agg #[.string ByteArray.empty, .slice none 0 0]) 2 40 Tryz.underlying25 hi' hz0' hz1' hz2' rfl (by decide) _ (stayTo (actsF acts) by_ x k).length xs rfl (hOW.alloc _) ⟨wr.heap.size, 0, none⟩ 1 1 [.string x[k].1, .slice p4 x[k].2.length c4] rfl rfl ?c1 ?c2 ?c3 ?c4 ?c5 ?_)
            case c1 =>
              intro j u hj
              match j, hj with
              | 0, hj => simp at hj; subst hj; simp [Addr.add]
              | 1, hj => simp at hj; subst hj; simp [Addr.add]
            case c2 => intro u hu; simp at hu; rcases hu with rfl | rfl <;> rfl
            case c3 => unfold maxLen; omega
            case c4 => omega
            case c5 => simp; omega
            · intro v6 w6 hown6 hg6 _
              have HO : Hid (w6.ownsRow w.heap.size 37 2 v6 (stayTo (actsF acts) by_ x (k + 1)).length (xs ++ [.string x[k].1, .slice p4 x[k].2.length c4])) := by
                unfold Hid
                rw [HXX.out]
                simpa using hown6
              have HRX : Hid (Rows pol 2 w (stayTo (actsF acts) by_ x (k + 1)) (xs ++ [.string x[k].1, .slice p4 x[k].2.length c4])) := by
                unfold Hid
                rw [HXX.out]
                exact HROW.out.append (.one ⟨[.string x[k].1], [.slice p4 x[k].2.length c4], rfl, rfl, ⟨_, rfl, HUK.out⟩⟩ rfl)
              have HBN : Hid (Below w.heap.size w w6) := (HBW.out.alloc HBW.out.size _).grown hg6 (by simp; omega) (fun q hq => (HOWN.out.lt q hq).1)
              clear hown6 hg6
              go_wp2
              go_roundw
              case rel => exact ⟨k + 1, _, _, by omega, by go_num, rfl, rfl, HBN, _, HO, HRX⟩
              case measure => simp [intOf]; omega
    · obtain rfl : k = x.length := by omega
      have hfin : Lbl wq (stayTo (actsF acts) by_ x x.length) yv := SliceOf.of_rows HOWN.out (Rows.stays pol_stays (keeps_of_below HBR.out) HROW.out)
      have HCA := Lib.hid (HRN.out wq yv HBR.out hfin)
      clear hfin HOWN HROW HRN
      go_wp2_with (fail)
      refine HCA.out.mono ?_
      rintro e w7 ⟨y, rfl, hy, hb7⟩
      have HY := Lib.hid hy
      have HBF := Lib.hid (HBR.out.trans (hb7.mono HBR.out.size))
      clear hy hb7
      go_wp2
      go_ret
      exact ⟨_, rfl, HY.out, HBF.out⟩

set_option maxHeartbeats 1000000 in
theorem sameF_calls (x : Pol) (vx vy : Value) (w : World) (hx : Strs w x.2 vx) (hy : Strs w x.2 vy) :
    Calls Tryz.prog 43 #[.agg #[.string x.1, vx], .agg #[.string x.1, vy]] w fun e w' => e = .returned (.bool true) ∧ Below w.heap.size w w' := by
  obtain ⟨b1, o1, c1, p1, rfl, _⟩ := hx.cells
  obtain ⟨b2, o2, c2, p2, rfl, _⟩ := hy.cells
  obtain ⟨W2, eW⟩ : ∃ W2, (w.alloc (.cells #[.string x.1, .slice p1 x.2.length c1] 37)).alloc (.cells #[.string x.1, .slice p2 x.2.length c2] 37) = W2 := ⟨_, rfl⟩
  obtain ⟨z2, hW, m1, m2⟩ := boxes2 eW
  have h10 := m1 0
  have h11 := m1 1
  have h20 := m2 0
  have h21 := m2 1
  simp only [List.getElem?_toArray, List.getElem?_cons_zero, List.getElem?_cons_succ] at h10 h11 h20 h21
  have q1 : (x.1.toList == x.1.toList) = true := by simp
  have HX := Lib.hid (hx.stays (keeps_of_below hW))
  have HY := Lib.hid (hy.stays (keeps_of_below hW))
  have HW := Lib.hid hW
  clear m1 m2 hW z2 hx hy
  go_enter Tryz.func43, Tryz.ntmps43
  go_wp2_with (fail)
  refine (equalS_calls x.2 x.2 _ _ _ HX.out HY.out).mono ?_
  rintro e w1 ⟨rfl, n, rfl⟩
  have HE : Hid ((x.2 == x.2) = true) := by unfold Hid; simp
  rw [HE.out]
  have HWN := Lib.hid (below_drewN HW.out n)
  go_wp2
  go_ret
  exact ⟨rfl, HWN.out⟩

set_option maxHeartbeats 2000000 in
theorem eqPol_calls (x : Lab) (vx vy : Value) (w : World) (hx : Lbl w x vx) (hy : Lbl w x vy) :
    Calls Tryz.prog 42 #[vx, vy, .func (.func 43) #[] #[]] w fun e w' => e = .returned (.bool true) ∧ Below w.heap.size w w' := by
  obtain ⟨b1, o1, c1, p1, rfl, hlc1, hcm1, hp1, hcells1⟩ := hx.cells
  obtain ⟨b2, o2, c2, p2, rfl, hlc2, hcm2, hp2, hcells2⟩ := hy.cells
  clear hx hy
  go_enter Tryz.func42, Tryz.ntmps42
  go_wp2
  go_loopw [7, 8, 9, 17] (fun _ _ _ i ws => ∃ (k : Nat) (wo : World), k ≤ x.length ∧ i = .int .i64 k ∧ wo = ws ∧ Below w.heap.size w wo) (fun _ _ _ i _ => x.length - (intOf i).toNat)
  case atStart => exact ⟨0, _, Nat.zero_le _, rfl, rfl, Below.refl _ _⟩
  case round =>
    obtain ⟨k, wo, hk, rfl, rfl, hb⟩ := hrel
    by_cases hlt : k < x.length
    · obtain ⟨u1, g0, g1, hu1⟩ := hcells1 k hlt
      obtain ⟨u2, g2, g3, hu2⟩ := hcells2 k hlt
      obtain rfl := hp1 (by omega)
      obtain rfl := hp2 (by omega)
      have e0 : wo.cell? ⟨b1, o1 + k * 2, none⟩ = some (.string x[k].1) := (hb.cell (cell_lt g0)).trans g0
      have e1 : wo.cell? ⟨b1, o1 + k * 2 + 1, none⟩ = some u1 := (hb.cell (cell_lt g1)).trans g1
      have e2 : wo.cell? ⟨b2, o2 + k * 2, none⟩ = some (.string x[k].1) := (hb.cell (cell_lt g2)).trans g2
      have e3 : wo.cell? ⟨b2, o2 + k * 2 + 1, none⟩ = some u2 := (hb.cell (cell_lt g3)).trans g3
      have hv1 := hu1.stays (keeps_of_below hb)
      have hv2 := hu2.stays (keeps_of_below hb)
      obtain ⟨bu1, ou1, cu1, pu1, rfl, _⟩ := hv1.cells
      obtain ⟨bu2, ou2, cu2, pu2, rfl, _⟩ := hv2.cells
      obtain ⟨W2, eW⟩ : ∃ W2, (wo.alloc (.cells #[.string x[k].1, .slice pu1 x[k].2.length cu1] 37)).alloc (.cells #[.string x[k].1, .slice pu2 x[k].2.length cu2] 37) = W2 := ⟨_, rfl⟩
      obtain ⟨z2, hW, m1, m2⟩ := boxes2 eW
      have h10 := m1 0
      have h11 := m1 1
      have h20 := m2 0
      have h21 := m2 1
      simp only [List.getElem?_toArray, List.getElem?_cons_zero, List.getElem?_cons_succ] at h10 h11 h20 h21
      have e4 : (wo.alloc (.cells #[.string x[k].1, .slice pu1 x[k].2.length cu1] 37)).cell? ⟨b2, o2 + k * 2, none⟩ = some (.string x[k].1) := by rw [alloc_cell_old _ _ _ _ (cell_lt e2)]; exact e2
      have e5 : (wo.alloc (.cells #[.string x[k].1, .slice pu1 x[k].2.length cu1] 37)).cell? ⟨b2, o2 + k * 2 + 1, none⟩ = some (.slice pu2 x[k].2.length cu2) := by rw [alloc_cell_old _ _ _ _ (cell_lt e3)]; exact e3
      have HC := Lib.hid (sameF_calls x[k] _ _ W2 (hv1.stays (keeps_of_below hW)) (hv2.stays (keeps_of_below hW)))
      have HB2 := Lib.hid (hb.trans (hW.mono hb.size))
      clear m1 m2 hW z2 hv1 hv2 hu1 hu2 g0 g1 g2 g3 e2 e3
      go_wp2_with (fail)
      refine HC.out.mono ?_
      rintro e w1 ⟨rfl, hb1⟩
      have HB1 := Lib.hid (HB2.out.trans (hb1.mono HB2.out.size))
      go_wp2
      go_roundw
      case rel => exact ⟨k + 1, _, by omega, by go_num, rfl, HB1.out⟩
      case measure => simp [intOf]; omega
    · go_wp2
      go_ret
      exact ⟨rfl, hb⟩
theorem sameLabel_calls (x : Lab) (vx vy : Value) (w : World) (hx : Lbl w x vx) (hy : Lbl w x vy) :
    Calls Tryz.prog 11 #[vx, vy] w fun e w' => e = .returned (.bool true) ∧ Below w.heap.size w w' := by
  obtain ⟨b1, o1, c1, p1, rfl, _⟩ := hx.cells
  obtain ⟨b2, o2, c2, p2, rfl, _⟩ := hy.cells
  go_enter Tryz.func11, Tryz.ntmps11
  go_wp2_with (fail)
  refine (eqPol_calls x _ _ _ hx hy).mono ?_
  rintro e w1 ⟨rfl, hb⟩
  go_wp2
  go_ret
  exact ⟨rfl, hb⟩
end Go.Proofs.YtcgihpfanfbonaaGreatDoor
namespace Go.Proofs.YtcgihpfanfbonaaGreatDoor
open Go.RowKit
set_option linter.unusedVariables false
set_option linter.unusedSimpArgs false

theorem pol_plain : Plain pol := Both.plain txt_plain Sl.plain

set_option maxHeartbeats 400000 in
set_option maxRecDepth 100000 in
theorem growL_calls (n : Nat) (w : World) (hn : n ≤ 2097152) :
    Calls Tryz.prog 50 #[.slice none 0 0, .int .i64 n] w fun e w' => ∃ v, e = .returned v ∧ w'.ownsRow w.heap.size 37 2 v 0 [] ∧ Below w.heap.size w w' := by
  obtain ⟨t0, hi, hz0, hz1, hz2⟩ := info_parts Tryz.info_policy
  by_cases h0 : n = 0
  · subst h0
    go_enter Tryz.func50, Tryz.ntmps50
    go_wp2
    go_ret
    exact ⟨_, rfl, World.ownsRow_nil _ _ _ _, Below.refl _ _⟩
  · have hpos : 0 < n := by omega
    have hpos' : (0 : Int) < (n : Int) := by omega
    have hr : ∀ ty, (Builtin.append_ #[25, 3] ty #[.slice none 0 0, .int .i64 n]).run Tryz.prog w = _ := fun ty =>
      Lib.run_append_nil_zeros (P := Tryz.prog) w 25 3 ty 37 t0 (.agg #[.string ByteArray.empty, .slice none 0 0]) .i64 .i64 Tryz.underlying25 Tryz.underlying3 hi hz0 n hpos (by rw [hz1]; decide) (by omega) (by rw [hz2]; omega)
    have hcap : n ≤ grownCap w n 0 37 := grownCap_ge _ _ _ _
    have hcap2 : grownCap w n 0 37 ≤ maxLen := grownCap_le_maxLen _ _ _ _ (by unfold maxLen; omega)
    generalize grownCap w n 0 37 = cap at *
    have hsz : (Builtin.zeroCells (Value.agg #[.string ByteArray.empty, .slice none 0 0]).cells n ++ Builtin.zeroCells (Value.agg #[.string ByteArray.empty, .slice none 0 0]).cells (cap - n)).size = cap * 2 := by
      simp [Builtin.zeroCells, Value.cells]; omega
    generalize Builtin.zeroCells (Value.agg #[.string ByteArray.empty, .slice none 0 0]).cells n ++ Builtin.zeroCells (Value.agg #[.string ByteArray.empty, .slice none 0 0]).cells (cap - n) = cur at *
    have hown : (w.drew.alloc (.cells cur 37)).ownsRow w.heap.size 37 2 (.slice (some ⟨w.heap.size, 0, none⟩) 0 cap) 0 [] := World.ownsRow_made w.drew cur cap (Nat.le_refl _) hcap2 hsz
    have HO := Lib.hid hown
    clear hown
    unfold maxLen at hcap2
    go_enter Tryz.func50, Tryz.ntmps50
    go_wp2_with (at_builtin; refine Lib.wpList_append_run _ rfl _ _ _ _ rfl (.slice none 0 0) (.int .i64 n) rfl rfl _ _ (hr _) ?_)
    go_ret
    exact ⟨_, rfl, HO.out, (Below.refl _ _).drew.alloc (Nat.le_refl _) _⟩

def sumL (l m : Lab) : Nat → Nat
  | 0 => 0
  | 1 => l.length
  | _ => l.length + m.length
def catL (l m : Lab) : Nat → Lab
  | 0 => []
  | 1 => l
  | _ => l ++ m
set_option maxHeartbeats 1000000 in
set_option maxRecDepth 100000 in
theorem concatL_calls (l m : Lab) (u1 u2 : Value) (b o : Nat) (w : World) (h1 : Lbl w l u1) (h2 : Lbl w m u2) (hc1 : w.cell? ⟨b, o, none⟩ = some u1) (hc2 : w.cell? ⟨b, o + 1, none⟩ = some u2) (hlm : l.length + m.length ≤ 2097152) :
    Calls Tryz.prog 13 #[.slice (some ⟨b, o, none⟩) 2 2] w fun e w' => ∃ v, e = .returned v ∧ Lbl w' (l ++ m) v ∧ Below w.heap.size w w' := by
  obtain ⟨t0, hi, hz0, hz1, hz2⟩ := info_parts Tryz.info_policy
  obtain ⟨p1, c1, xs1, e1, hl1, hm1, hr1, hp1, hx1⟩ := SliceOf.rows (by decide) h1
  obtain ⟨p2, c2, xs2, e2, hl2, hm2, hr2, hp2, hx2⟩ := SliceOf.rows (by decide) h2
  subst e1 e2
  have hlen : ((l.length : Int) + (m.length : Int)) ≤ 2097152 := by omega
  have HX1 := Lib.hid hx1
  have HX2 := Lib.hid hx2
  have HR1 := Lib.hid hr1
  have HR2 := Lib.hid hr2
  have HP1 := Lib.hid hp1
  have HP2 := Lib.hid hp2
  clear h1 h2 hx1 hx2 hr1 hr2 hp1 hp2
  go_enter Tryz.func13, Tryz.ntmps13
  go_wp2
  go_loop [3, 11] (fun s i => ∃ k : Nat, k ≤ 2 ∧ i = .int .i64 k ∧ s = .int .i64 (sumL l m k)) (fun _ i => 2 - (intOf i).toNat)
  case atStart => exact ⟨0, by omega, rfl, rfl⟩
  case round =>
    obtain ⟨k, hk, rfl, rfl⟩ := hrel
    match k, hk with
    | 0, _ =>
      simp only [sumL]
      go_wp2
      go_round
      case rel => exact ⟨1, by omega, by go_num, by simp [sumL]⟩
      case measure => simp [intOf]
    | 1, _ =>
      simp only [sumL]
      go_wp2
      go_round
      case rel => exact ⟨2, by omega, by go_num, by simp [sumL]⟩
      case measure => simp [intOf]
    | 2, _ =>
      simp only [sumL]
      go_wp2_with (fail)
      refine (growL_calls (l.length + m.length) _ (by omega)).mono ?_
      rintro e w1 ⟨x, rfl, hown, hb1⟩
      go_wp2
      go_loopw [6, 8, 27] (fun x _ i wr => ∃ k : Nat, k ≤ 2 ∧ i = .int .i64 k ∧ Below w.heap.size w wr ∧ ∃ xs, wr.ownsRow w.heap.size 37 2 x (catL l m k).length xs ∧ Rows pol 2 w (catL l m k) xs) (fun _ _ i _ => 2 - (intOf i).toNat)
      case atStart => exact ⟨0, by omega, rfl, hb1, [], hown, rfl⟩
      case round =>
        clear hown hb1
        obtain ⟨k, hk, rfl, hb, xs, hown, hrow⟩ := hrel
        match k, hk with
        | 0, _ =>
          simp only [catL] at hown hrow
          have hcell := (hb.cell (cell_lt hc1)).trans hc1
          have hk2 := keeps_of_below hb
          have HB := Lib.hid hb
          have hown1 := hown
          have HOW := Lib.hid hrow
          clear hrow
          go_wp2_with (at_builtin; refine wpList_append_src _ rfl _ _ 25 rfl w.heap.size 37 t0 (.agg #[.string ByteArray.empty, .slice none 0 0]) 2 40 Tryz.underlying25 hi hz0 hz1 hz2 rfl (by decide) _ _ _ rfl hown p1 l.length c1 xs1 rfl HR1.out.length HP1.out ?c1 (Rows.plain pol_plain HR1.out) ?c2 ?c3 hb.size ?_)
          case c1 => exact fun ad e j u hu => cell_keep hk2 (HX1.out ad e j u hu)
          case c2 => (try simp only [List.length_nil]); unfold maxLen; omega
          case c3 => (try simp only [List.length_nil]); omega
          · intro v' w5 hown' hgrow
            go_wp2
            go_roundw
            case rel =>
              refine ⟨1, by omega, by go_num, HB.out.grown hgrow HB.out.size (fun q hq => (hown1.lt q hq).1), xs ++ xs1, ?_, ?_⟩
              · simpa [catL] using hown'
              · exact HOW.out.append HR1.out
            case measure => simp [intOf]
        | 1, _ =>
          simp only [catL] at hown hrow
          have hcell := (hb.cell (cell_lt hc2)).trans hc2
          have hk2 := keeps_of_below hb
          have HB := Lib.hid hb
          have hown1 := hown
          have HOW := Lib.hid hrow
          clear hrow
          go_wp2_with (at_builtin; refine wpList_append_src _ rfl _ _ 25 rfl w.heap.size 37 t0 (.agg #[.string ByteArray.empty, .slice none 0 0]) 2 40 Tryz.underlying25 hi hz0 hz1 hz2 rfl (by decide) _ _ _ rfl hown p2 m.length c2 xs2 rfl HR2.out.length HP2.out ?c1 (Rows.plain pol_plain HR2.out) ?c2 ?c3 hb.size ?_)
          case c1 => exact fun ad e j u hu => cell_keep hk2 (HX2.out ad e j u hu)
          case c2 => (try simp only [List.length_nil]); unfold maxLen; omega
          case c3 => (try simp only [List.length_nil]); omega
          · intro v' w5 hown' hgrow
            go_wp2
            go_roundw
            case rel =>
              refine ⟨2, by omega, by go_num, HB.out.grown hgrow HB.out.size (fun q hq => (hown1.lt q hq).1), xs ++ xs2, ?_, ?_⟩
              · simpa [catL] using hown'
              · exact HOW.out.append HR2.out
            case measure => simp [intOf]
        | 2, _ =>
          simp only [catL] at hown hrow
          have hfin : Lbl wr (l ++ m) _ := SliceOf.of_rows hown (Rows.stays pol_stays (keeps_of_below hb) hrow)
          have HF := Lib.hid hfin
          clear hown hrow hfin
          go_wp2
          go_ret
          exact ⟨_, rfl, HF.out, hb⟩
end Go.Proofs.YtcgihpfanfbonaaGreatDoor
namespace Go.Proofs.YtcgihpfanfbonaaGreatDoor
open Go.RowKit Go.Maps
set_option linter.unusedVariables false
set_option linter.unusedSimpArgs false

theorem nilL (w : World) : Lbl w [] (.slice none 0 0) := ⟨none, 0, rfl, by simp, by unfold maxLen; omega, .inl rfl⟩
def normalR (l : List Txt) (acts : List (Txt × Txt)) (x : Lab) : Lab := if labE l acts x = 0 then normL (mayB l acts) x else []
def joinR (l : List Txt) (acts : List (Txt × Txt)) (a b : Lab) : Lab := if flowsE l acts a b = 0 then joinL (mayB l acts) a b else []
theorem okLab_append {a b : Lab} (ha : okLab a) (hb : okLab b) : okLab (a ++ b) := fun p hp => by
  rcases List.mem_append.1 hp with hp | hp
  · exact ha p hp
  · exact hb p hp

set_option maxHeartbeats 1000000 in
set_option maxRecDepth 100000 in
theorem normal_calls (l : List Txt) (acts : List (Txt × Txt)) (x : Lab) (v u t : Value) (w : World) (hv : Strs w l v) (hu : Prs w acts u) (ht : Lbl w x t) (hl : okList okTxt l) (hxo : okLab x) :
    Calls Tryz.prog 6 #[v, u, t] w fun e w' => ∃ y, e = .returned (.tuple #[y, .int .i64 (labE l acts x)]) ∧ Lbl w' (normalR l acts x) y ∧ Below w.heap.size w w' := by
  have hv0 := hv
  obtain ⟨b0, o0, c0, p0, rfl, _⟩ := hv.cells
  obtain ⟨b1, o1, c1, p1, rfl, _⟩ := hu.cells
  obtain ⟨b2, o2, c2, p2, rfl, _⟩ := ht.cells
  by_cases he : labE l acts x = 0
  · obtain ⟨hc, hq⟩ := labE_check he
    have hz := labErr_zero hq
    have HC := Lib.hid hc
    have HR : Hid (normalR l acts x = normL (mayB l acts) x) := by unfold Hid normalR; rw [if_pos he]
    have HE := Lib.hid he
    have HL := Lib.hid hl
    have HN : Hid (x.length ≤ 1000 ∧ ∀ p ∈ x, p.2.length ≤ 1048576) := ⟨by omega, fun p hp => by have := (hz.2 p hp).1; omega⟩
    clear hc hq hz hl
    go_enter Tryz.func6, Tryz.ntmps6
    go_wp2_with (fail)
    refine (labCheck_calls l acts x _ _ _ _ hv0 hu ht).mono ?_
    rintro e w1 ⟨rfl, hb1⟩
    rw [he]
    clear he
    go_wp2_with (fail)
    refine (among_calls l acts _ _ _ (hv0.stays (keeps_of_below hb1)) (hu.stays (keeps_of_below hb1)) HC.out HL.out).mono ?_
    rintro e w2 ⟨r, rfl, hp2, hb2⟩
    have HB2 := Lib.hid (hb1.trans (hb2.mono hb1.size))
    go_wp2_with (fail)
    refine (wnormal_calls (mayB l acts) _ r x _ _ hp2 hxo (ht.stays (keeps_of_below HB2.out)) HN.out.1 HN.out.2).mono ?_
    rintro e w3 ⟨y, rfl, hy, hb3⟩
    have HY := Lib.hid hy
    have HB3 := Lib.hid (HB2.out.trans (hb3.mono HB2.out.size))
    clear hy hb3
    go_wp2
    go_ret2
    exact ⟨_, by rw [HE.out]; rfl, by rw [HR.out]; exact HY.out, HB3.out⟩
  · have hR : normalR l acts x = [] := by unfold normalR; rw [if_neg he]
    rw [hR]
    have hq : (labE l acts x != 0) = true := by simpa using he
    have hq2 : (labE l acts x == 0) = false := by simpa using he
    clear he hR
    go_enter Tryz.func6, Tryz.ntmps6
    go_wp2_with (fail)
    refine (labCheck_calls l acts x _ _ _ _ hv0 hu ht).mono ?_
    rintro e w1 ⟨rfl, hb1⟩
    go_wp2
    go_ret2
    exact ⟨_, rfl, nilL _, hb1⟩

set_option maxHeartbeats 2000000 in
set_option maxRecDepth 100000 in
theorem join_lab_calls (l : List Txt) (acts : List (Txt × Txt)) (a b : Lab) (v u va vb : Value) (w : World) (hv : Strs w l v) (hu : Prs w acts u) (ha : Lbl w a va) (hb : Lbl w b vb) (hl : okList okTxt l) (hao : okLab a) (hbo : okLab b) :
    Calls Tryz.prog 7 #[v, u, va, vb] w fun e w' => ∃ y, e = .returned (.tuple #[y, .int .i64 (flowsE l acts a b)]) ∧ Lbl w' (joinR l acts a b) y ∧ Below w.heap.size w w' := by
  obtain ⟨b0, o0, c0, p0, rfl, _⟩ := hv.cells
  obtain ⟨b1, o1, c1, p1, rfl, _⟩ := hu.cells
  obtain ⟨b2, o2, c2, p2, rfl, _⟩ := ha.cells
  obtain ⟨b3, o3, c3, p3, rfl, _⟩ := hb.cells
  have i0 : ∀ x y (w : World), (Instr.index 65 (.agg #[x, y]) (.int .i64 0)).run Tryz.prog w = .ok x w := fun _ _ _ => by kernel_rfl
  have i1 : ∀ x y (w : World), (Instr.index 65 (.agg #[x, y]) (.int .i64 1)).run Tryz.prog w = .ok y w := fun _ _ _ => by kernel_rfl
  go_enter Tryz.func7, Tryz.ntmps7
  go_wp2
  go_loopw [11, 12, 16] (fun _ _ i wr => ∃ k : Nat, k ≤ 2 ∧ i = .int .i64 k ∧ Below w.heap.size w wr ∧ Hid ((0 < k → labE l acts a = 0) ∧ (1 < k → labE l acts b = 0))) (fun _ _ i _ => 2 - (intOf i).toNat)
  case atStart => exact ⟨0, by omega, rfl, Below.refl _ _, fun h => absurd h (by omega), fun h => absurd h (by omega)⟩
  case round =>
    obtain ⟨k, hk, rfl, hbr, HK⟩ := hrel
    match k, hk, HK with
    | 0, _, HK =>
      by_cases he : labE l acts a = 0
      · have HE := Lib.hid he
        go_wp2_with (fail)
        refine (labCheck_calls l acts a _ _ _ _ (hv.stays (keeps_of_below hbr)) (hu.stays (keeps_of_below hbr)) (ha.stays (keeps_of_below hbr))).mono ?_
        rintro e w1 ⟨rfl, hb1⟩
        rw [he]
        clear he
        go_wp2
        go_roundw
        case rel => exact ⟨1, by omega, by go_num, hbr.trans (hb1.mono hbr.size), fun _ => HE.out, fun h => absurd h (by omega)⟩
        case measure => simp [intOf]
      · have HE : Hid (flowsE l acts a b = labE l acts a ∧ joinR l acts a b = []) := by
          have e : flowsE l acts a b = labE l acts a := by unfold flowsE; rw [if_pos he]
          exact ⟨e, by unfold joinR; rw [e, if_neg he]⟩
        have hq : (labE l acts a != 0) = true := by simpa using he
        have hq2 : (labE l acts a == 0) = false := by simpa using he
        clear he
        go_wp2_with (fail)
        refine (labCheck_calls l acts a _ _ _ _ (hv.stays (keeps_of_below hbr)) (hu.stays (keeps_of_below hbr)) (ha.stays (keeps_of_below hbr))).mono ?_
        rintro e w1 ⟨rfl, hb1⟩
        go_wp2
        go_ret2
        exact ⟨_, by rw [HE.out.1]; rfl, by rw [HE.out.2]; exact nilL _, hbr.trans (hb1.mono hbr.size)⟩
    | 1, _, HK =>
      have he0 : labE l acts a = 0 := HK.out.1 (by omega)
      have HE0 := Lib.hid he0
      clear he0
      by_cases he : labE l acts b = 0
      · have HE := Lib.hid he
        go_wp2_with (fail)
        refine (labCheck_calls l acts b _ _ _ _ (hv.stays (keeps_of_below hbr)) (hu.stays (keeps_of_below hbr)) (hb.stays (keeps_of_below hbr))).mono ?_
        rintro e w1 ⟨rfl, hb1⟩
        rw [he]
        clear he
        go_wp2
        go_roundw
        case rel => exact ⟨2, by omega, by go_num, hbr.trans (hb1.mono hbr.size), fun _ => HE0.out, fun _ => HE.out⟩
        case measure => simp [intOf]
      · have HE : Hid (flowsE l acts a b = labE l acts b ∧ joinR l acts a b = []) := by
          have e : flowsE l acts a b = labE l acts b := by unfold flowsE; rw [if_neg (by rw [HE0.out]; simp)]
          exact ⟨e, by unfold joinR; rw [e, if_neg he]⟩
        have hq : (labE l acts b != 0) = true := by simpa using he
        have hq2 : (labE l acts b == 0) = false := by simpa using he
        clear he
        go_wp2_with (fail)
        refine (labCheck_calls l acts b _ _ _ _ (hv.stays (keeps_of_below hbr)) (hu.stays (keeps_of_below hbr)) (hb.stays (keeps_of_below hbr))).mono ?_
        rintro e w1 ⟨rfl, hb1⟩
        go_wp2
        go_ret2
        exact ⟨_, by rw [HE.out.1]; rfl, by rw [HE.out.2]; exact nilL _, hbr.trans (hb1.mono hbr.size)⟩
    | 2, _, HK =>
      have he0 : labE l acts a = 0 := HK.out.1 (by omega)
      have he1 : labE l acts b = 0 := HK.out.2 (by omega)
      have hc := (labE_check he0).1
      have hza := labErr_zero (labE_check he0).2
      have hzb := labErr_zero (labE_check he1).2
      have HC := Lib.hid hc
      have HE : Hid (flowsE l acts a b = 0 ∧ joinR l acts a b = joinL (mayB l acts) a b) := by
        have e : flowsE l acts a b = 0 := by unfold flowsE; rw [if_neg (by rw [he0]; simp), he1]
        exact ⟨e, by unfold joinR; rw [if_pos e]⟩
      have HN : Hid ((a ++ b).length ≤ 1000 ∧ ∀ p ∈ a ++ b, p.2.length ≤ 1048576) := ⟨by simp; omega, fun p hp => by
        rcases List.mem_append.1 hp with hp | hp
        · have := (hza.2 p hp).1; omega
        · have := (hzb.2 p hp).1; omega⟩
      have HLE : Hid (a.length + b.length ≤ 2097152) := by unfold Hid; omega
      clear he0 he1 hc i0 i1 hza hzb
      go_wp2_with (fail)
      refine (among_calls l acts _ _ _ (hv.stays (keeps_of_below hbr)) (hu.stays (keeps_of_below hbr)) HC.out hl).mono ?_
      rintro e w1 ⟨r, rfl, hp1, hb1⟩
      have hbw : Below w.heap.size w w1 := hbr.trans (hb1.mono hbr.size)
      obtain ⟨W2, eW2⟩ : ∃ W2, w1.alloc (.cells #[.slice p2 a.length c2, .slice p3 b.length c3] 25) = W2 := ⟨_, rfl⟩
      obtain ⟨z2, hW2, m2⟩ := boxes1 eW2
      have k0 := m2 0
      have k1 := m2 1
      simp only [List.getElem?_toArray, List.getElem?_cons_zero, List.getElem?_cons_succ] at k0 k1
      have HB2 : Hid (Below w.heap.size w W2) := hbw.trans (hW2.mono hbw.size)
      have HP2 := Lib.hid (hp1.below hW2)
      have HCC := Lib.hid (concatL_calls a b _ _ w1.heap.size 0 W2 (ha.stays (keeps_of_below HB2.out)) (hb.stays (keeps_of_below HB2.out)) k0 k1 HLE.out)
      clear m2 hW2 z2 hp1 hbw hb1 hbr
      go_wp2_with (fail)
      refine HCC.out.mono ?_
      rintro e w3 ⟨vc, rfl, hvc, hb3⟩
      have HB3 : Hid (Below w.heap.size w w3) := HB2.out.trans (hb3.mono HB2.out.size)
      have HVC := Lib.hid hvc
      have HP3 := Lib.hid (HP2.out.below hb3)
      clear hvc hb3
      go_wp2_with (fail)
      refine (wnormal_calls (mayB l acts) _ r (a ++ b) _ _ HP3.out (okLab_append hao hbo) HVC.out HN.out.1 HN.out.2).mono ?_
      rintro e w4 ⟨y, rfl, hy, hb4⟩
      have HY := Lib.hid hy
      have HB4 := Lib.hid (HB3.out.trans (hb4.mono HB3.out.size))
      clear hy hb4
      go_wp2
      go_ret2
      exact ⟨_, by rw [HE.out.1]; rfl, by rw [HE.out.2]; exact HY.out, HB4.out⟩
end Go.Proofs.YtcgihpfanfbonaaGreatDoor
