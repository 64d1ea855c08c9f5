/-
  The reference's CheckLabel, Lets, covers, MayGo, ReadersOf.
-/
import Derived.Test.YtfbieagkhbmgjaaDoorLabE
import Derived.Test.YtfbieagkhbmgjaaDoorRefA
import Derived.Test.YtfbieagkhbmgjaaDoorActsL
namespace Go.Proofs.YtfbieagkhbmgjaaDoor
open Go.RowKit Go.Maps
set_option linter.unusedVariables false
set_option linter.unusedSimpArgs false

set_option maxHeartbeats 400000 in
set_option maxRecDepth 100000 in
theorem refLabel_calls (l : List Txt) (x : Lab) (v u : Value) (w : World) (hv : Strs w l v) (hu : Lbl w x u) :
    Calls Tryd.prog 28 #[v, u] w fun e w' => e = .returned (.int .i64 (labErr l x)) ∧ Below w.heap.size w w' := by
  have hv0 := hv
  obtain ⟨b0, o0, c0, p0, rfl, hlc, hcm, hp0, hcells0⟩ := hv.cells
  obtain ⟨b, o, c, p, rfl, hlc1, hcm1, hp, hcells⟩ := hu.cells
  clear hp0 hcells0 hv hu
  obtain ⟨t0, hi, hz0, hz1, hz2⟩ := info_parts Tryd.info_stringL
  by_cases h0 : x.length ≤ 200
  · have h0' : (x.length : Int) ≤ 200 := by omega
    go_enter Tryd.func28, Tryd.ntmps28
    go_wp2
    go_loopw [14] (fun i wr => ∃ k : Nat, k ≤ x.length ∧ i = .int .i64 k ∧ Below w.heap.size w wr ∧ Hid (∀ j (hj : j < x.length), j < k → polErr l x[j] = 0)) (fun i _ => x.length - (intOf i).toNat)
    case atStart => exact ⟨0, Nat.zero_le _, rfl, Below.refl _ _, fun j _ hj => absurd hj (Nat.not_lt_zero _)⟩
    case round =>
      obtain ⟨k, hk, rfl, hb, HN⟩ := hrel
      by_cases hlt : k < x.length
      · obtain ⟨ur, hca, hcb, hur⟩ := hcells k hlt
        have hcell1 : wr.cell? ⟨b, o + k * 2, none⟩ = some (.string x[k].1) := (hb.cell (cell_lt hca)).trans hca
        have hcell2 : wr.cell? ⟨b, o + k * 2 + 1, none⟩ = some ur := (hb.cell (cell_lt hcb)).trans hcb
        obtain rfl := hp (by omega)
        clear hp hcells hca hcb
        obtain ⟨pr, cr, xs, rfl, hl1, hl2, hrow, hpn, hnews⟩ := SliceOf.rows (by decide) hur
        by_cases h6 : 6 < x[k].2.length
        · have h6' : 6 < (x[k].2.length : Int) := by omega
          have HX : Hid (labErr l x = 2) := by
            show labErr l x = 2
            have e := polErr_many (l := l) h6
            rw [labErr_at h0 hlt (by rw [e]; omega) HN.out, e]
          go_wp2
          go_ret
          exact ⟨ret_int HX.out.symm, hb.alloc hb.size _⟩
        · have h6' : (x[k].2.length : Int) ≤ 6 := by omega
          have hbA : Below w.heap.size w (wr.alloc (.cells #[.string x[k].1, .slice pr x[k].2.length cr] 85)) := hb.alloc hb.size _
          have hk2 := keeps_of_below (((Below.refl wr.heap.size wr).alloc (Nat.le_refl _) (.cells #[.string x[k].1, .slice pr x[k].2.length cr] 85)).alloc (by simp) (.cells #[.string x[k].1] 9))
          have hk3 := (keeps_of_below hb).trans hk2
          have HB := Lib.hid hb
          have HROW := Lib.hid hrow
          have HNEWS := Lib.hid hnews
          have hsize := hb.size
          have hlen6 : x[k].2.length ≤ 6 := by omega
          have hown0 : ((wr.alloc (.cells #[.string x[k].1, .slice pr x[k].2.length cr] 85)).alloc (.cells #[.string x[k].1] 9)).ownsRow w.heap.size 9 1 (.slice (some ⟨wr.heap.size + 1, 0, none⟩) 1 1) 1 [.string x[k].1] := by
            have := World.ownsRow_lit (base := w.heap.size) (e := 9) (size := 1) (wr.alloc (.cells #[.string x[k].1, .slice pr x[k].2.length cr] 85)) #[.string x[k].1] 1 hbA.size (by unfold maxLen; decide) rfl
            simpa using this
          clear hrow hnews hur hbA hk2
          go_wp2_with (at_builtin; refine wpList_append_src _ rfl _ _ 22 rfl w.heap.size 9 t0 (.string ByteArray.empty) 1 16 Tryd.underlying22 hi hz0 hz1 hz2 rfl (by decide) _ _ _ rfl hown0 pr x[k].2.length cr xs rfl HROW.out.length hpn ?c1 (Rows.plain txt_plain HROW.out) ?c2 ?c3 ?c4 ?_)
          case c1 => exact fun ad e j u hu => cell_keep hk3 (HNEWS.out ad e j u hu)
          case c2 => unfold maxLen; omega
          case c3 => omega
          case c4 => simp; omega
          · intro v' w5 hown' hgrow
            have hS : Strs w5 (x[k].1 :: x[k].2) v' := strs_of_own hown' rfl (Rows.free (One.free _) HROW.out)
            have hb5 : Below w.heap.size w w5 := ((HB.out.alloc HB.out.size _).alloc (by have := HB.out.size; simp; omega) _).grown hgrow (by have := HB.out.size; simp; omega) (fun q hq => by simp [Value.ownBlock] at hq; have := HB.out.size; omega)
            have HB5 := Lib.hid hb5
            generalize hys : x[k].1 :: x[k].2 = ys at hS
            have HYS := Lib.hid hys
            obtain ⟨b7, o7, c7, p7, rfl, hl7, hc7, hp7, hcells7⟩ := hS.cells
            obtain rfl := hp7 (by rw [← hys]; simp)
            clear hys
            clear hown' hgrow hS hk3 hcell1 hcell2 hb hp7
            go_wp2
            go_loopw [8, 29] (fun _ i wr => ∃ m : Nat, m ≤ ys.length ∧ i = .int .i64 m ∧ Below w5.heap.size w5 wr ∧ Hid (∀ j (hj : j < ys.length), j < m → has l ys[j] = true)) (fun _ i _ => ys.length - (intOf i).toNat)
            case atStart => exact ⟨0, Nat.zero_le _, rfl, Below.refl _ _, fun j _ hj => absurd hj (Nat.not_lt_zero _)⟩
            case round =>
              obtain ⟨m, hm, rfl, hbr, HM⟩ := hrel
              have hbw : Below w.heap.size w wr := HB5.out.trans (hbr.mono HB5.out.size)
              by_cases hltm : m < ys.length
              · have hcell : wr.cell? ⟨b7, o7 + m, none⟩ = some (.string ys[m]) := (hbr.cell (cell_lt (hcells7 m hltm))).trans (hcells7 m hltm)
                clear hcells7
                have hS := hv0.stays (keeps_of_below hbw)
                generalize hy : ys[m] = y at *
                have HY := Lib.hid hy
                clear hy
                cases hh : has l y with
                | true =>
                  have HH := Lib.hid hh
                  go_wp2_with (fail)
                  refine (contains_calls l y _ _ hS).mono ?_
                  rintro e w' ⟨rfl, rfl⟩
                  rw [hh]
                  clear hh
                  go_wp2
                  go_roundw
                  case rel =>
                    refine ⟨m + 1, by omega, by go_num, hbr, fun j hj hj' => ?_⟩
                    by_cases e : j = m
                    · subst e; rw [HY.out]; exact HH.out
                    · exact HM.out j hj (by omega)
                  case measure => simp [intOf]; omega
                | false =>
                  have HX : Hid (labErr l x = 5) := by
                    show labErr l x = 5
                    have e := polErr_who HYS.out h6 hltm (by rw [HY.out]; exact hh)
                    rw [labErr_at h0 hlt (by rw [e]; omega) HN.out, e]
                  go_wp2_with (fail)
                  refine (contains_calls l y _ _ hS).mono ?_
                  rintro e w' ⟨rfl, rfl⟩
                  rw [hh]
                  clear hh
                  go_wp2
                  go_ret
                  exact ⟨ret_int HX.out.symm, hbw⟩
              · have HX : Hid (polErr l x[k] = 0) := polErr_ok HYS.out h6 fun j hj => HM.out j hj (by omega)
                clear hcells7
                go_wp2
                go_roundw
                case rel =>
                  refine ⟨k + 1, by omega, by go_num, hbw, fun j hj hj' => ?_⟩
                  by_cases e : j = k
                  · subst e; exact HX.out
                  · exact HN.out j hj (by omega)
                case measure => simp [intOf]; omega
      · have HX : Hid (labErr l x = 0) := labErr_none h0 fun j hj => HN.out j hj (by omega)
        clear hp hcells
        go_wp2
        go_ret
        exact ⟨ret_int HX.out.symm, hb⟩
  · have h0' : 200 < (x.length : Int) := by omega
    have HX : Hid (labErr l x = 2) := by show labErr l x = 2; unfold labErr; rw [if_pos (by omega)]
    go_enter Tryd.func28, Tryd.ntmps28
    go_wp2
    go_ret
    exact ⟨ret_int HX.out.symm, Below.refl _ _⟩

section
variable {q : Txt → Txt → Bool} {p x : Pol} {ys : List Txt} {s : Txt}
theorem lets_ys (e : p.1 :: p.2 = ys) : letsB q p s = anyBy ys fun r => q s r := by
  subst e; unfold letsB anyBy; rw [List.any_cons]
theorem lets_hitR (e : p.1 :: p.2 = ys) {k : Nat} (hk : k < ys.length) (h : q s ys[k] = true) : letsB q p s = true := by
  rw [lets_ys e, any_iff]; exact ⟨_, List.getElem_mem hk, h⟩
theorem lets_missR (e : p.1 :: p.2 = ys) (h : ∀ k (hk : k < ys.length), q s ys[k] = false) : letsB q p s = false := by
  rw [lets_ys e, ← Bool.not_eq_true, any_iff]
  rintro ⟨x, hx, hq⟩
  obtain ⟨k, hk, rfl⟩ := List.getElem_of_mem hx
  rw [h k hk] at hq; cases hq
theorem covers_no1 (h : q p.1 x.1 = false) : coversB q p x = false := by unfold coversB; rw [h]; rfl
theorem covers_no2 {rs : List Txt} (e : p.2 = rs) {k : Nat} (hk : k < rs.length) (h : letsB q x rs[k] = false) : coversB q p x = false := by
  subst e
  rw [← Bool.not_eq_true, covers_iff]
  rintro ⟨_, h2⟩
  rw [h2 _ (List.getElem_mem hk)] at h; cases h
theorem covers_yes {rs : List Txt} (e : p.2 = rs) (h1 : q p.1 x.1 = true) (h : ∀ k (hk : k < rs.length), letsB q x rs[k] = true) : coversB q p x = true := by
  subst e
  rw [covers_iff]
  refine ⟨h1, fun r hr => ?_⟩
  obtain ⟨k, hk, rfl⟩ := List.getElem_of_mem hr
  exact h k hk
end

set_option maxHeartbeats 800000 in
set_option maxRecDepth 100000 in
theorem refLets_calls (acts : List (Txt × Txt)) (p : Pol) (s : Txt) (u vr : Value) (w : World) (hu : Prs w acts u) (hr : Strs w p.2 vr) (hn : acts.length ≤ 10) (h6 : p.2.length ≤ 6) :
    Calls Tryd.prog 49 #[u, .agg #[.string p.1, vr], .string s] w fun e w' => e = .returned (.bool (letsB (actsF acts) p s)) ∧ Below w.heap.size w w' := by
  obtain ⟨o, rs⟩ := p
  simp only at hr h6
  obtain ⟨t0, hi, hz0, hz1, hz2⟩ := info_parts Tryd.info_stringL
  have hu0 := hu
  obtain ⟨b1, o1, c1, p1, rfl, _⟩ := hu.cells
  obtain ⟨pr, cr, xs, rfl, hl1, hl2, hrow, hpn, hnews⟩ := SliceOf.rows (by decide) hr
  have HU : Hid (∀ W, Below w.heap.size w W → Prs W acts (.slice p1 acts.length c1)) := fun W h => hu0.stays (keeps_of_below h)
  have hbA : Below w.heap.size w (w.alloc (.cells #[.string o, .slice pr rs.length cr] 85)) := (Below.refl _ _).alloc (Nat.le_refl _) _
  have hk2 := keeps_of_below (((Below.refl w.heap.size w).alloc (Nat.le_refl _) (.cells #[.string o, .slice pr rs.length cr] 85)).alloc (by simp) (.cells #[.string o] 9))
  have HROW := Lib.hid hrow
  have HNEWS := Lib.hid hnews
  have HK2 := Lib.hid hk2
  have hown0 : ((w.alloc (.cells #[.string o, .slice pr rs.length cr] 85)).alloc (.cells #[.string o] 9)).ownsRow w.heap.size 9 1 (.slice (some ⟨w.heap.size + 1, 0, none⟩) 1 1) 1 [.string o] := by
    have := World.ownsRow_lit (base := w.heap.size) (e := 9) (size := 1) (w.alloc (.cells #[.string o, .slice pr rs.length cr] 85)) #[.string o] 1 hbA.size (by unfold maxLen; decide) rfl
    simpa using this
  have HN := Lib.hid hn
  clear hrow hnews hr hbA hk2 hu hu0 hn
  go_enter Tryd.func49, Tryd.ntmps49
  go_wp2_with (at_builtin; refine wpList_append_src _ rfl _ _ 22 rfl w.heap.size 9 t0 (.string ByteArray.empty) 1 16 Tryd.underlying22 hi hz0 hz1 hz2 rfl (by decide) _ _ _ rfl hown0 pr rs.length cr xs rfl HROW.out.length hpn ?c1 (Rows.plain txt_plain HROW.out) ?c2 ?c3 ?c4 ?_)
  case c1 => exact fun ad e j u hu => cell_keep HK2.out (HNEWS.out ad e j u hu)
  case c2 => unfold maxLen; omega
  case c3 => omega
  case c4 => simp; omega
  · intro v' w5 hown' hgrow
    have hS : Strs w5 (o :: rs) v' := strs_of_own hown' rfl (Rows.free (One.free _) HROW.out)
    have hb5 : Below w.heap.size w w5 := (((Below.refl w.heap.size w).alloc (Nat.le_refl _) _).alloc (by simp) _).grown hgrow (by simp; omega) (fun q hq => by simp [Value.ownBlock] at hq; omega)
    have HB5 := Lib.hid hb5
    generalize hys : o :: rs = ys at hS
    have HYS : Hid ((o, rs).1 :: (o, rs).2 = ys) := hys
    obtain ⟨b7, o7, c7, p7, rfl, hl7, hc7, hp7, hcells7⟩ := hS.cells
    obtain rfl := hp7 (by rw [← hys]; simp)
    clear hys
    clear hown' hgrow hS HK2 hp7 hb5
    go_wp2
    go_loopw [8, 16] (fun _ i wr => ∃ m : Nat, m ≤ ys.length ∧ i = .int .i64 m ∧ Below w5.heap.size w5 wr ∧ Hid (∀ j (hj : j < ys.length), j < m → actsF acts s ys[j] = false)) (fun _ i _ => ys.length - (intOf i).toNat)
    case atStart => exact ⟨0, Nat.zero_le _, rfl, Below.refl _ _, fun j _ hj => absurd hj (Nat.not_lt_zero _)⟩
    case round =>
      obtain ⟨m, hm, rfl, hbr, HM⟩ := hrel
      have hbw : Below w.heap.size w wr := HB5.out.trans (hbr.mono HB5.out.size)
      by_cases hltm : m < ys.length
      · have hcell : wr.cell? ⟨b7, o7 + m, none⟩ = some (.string ys[m]) := (hbr.cell (cell_lt (hcells7 m hltm))).trans (hcells7 m hltm)
        have HLT := Lib.hid hltm
        have HBR := Lib.hid hbr
        have HBW := Lib.hid hbw
        clear hcells7 hbr hbw
        cases hh : actsF acts s ys[m] with
        | true =>
          have HX : Hid (letsB (actsF acts) (o, rs) s = true) := lets_hitR HYS.out hltm hh
          have HH := Lib.hid hh
          clear hh
          go_wp2_with (fail)
          refine (refActs_calls acts s ys[m] _ _ (HU.out _ HBW.out) (by have := HN.out; omega)).mono ?_
          rintro e w6 ⟨rfl, hb6⟩
          rw [HH.out]
          go_wp2
          go_ret
          exact ⟨ret_bool HX.out.symm, HBW.out.trans (hb6.mono HBW.out.size)⟩
        | false =>
          have HH := Lib.hid hh
          clear hh
          go_wp2_with (fail)
          refine (refActs_calls acts s ys[m] _ _ (HU.out _ HBW.out) (by have := HN.out; omega)).mono ?_
          rintro e w6 ⟨rfl, hb6⟩
          rw [HH.out]
          have HB6 := Lib.hid (HBR.out.trans (hb6.mono HBR.out.size))
          clear hb6
          go_wp2
          go_roundw
          case rel =>
            refine ⟨m + 1, by omega, by go_num, HB6.out, fun j hj hj' => ?_⟩
            by_cases e : j = m
            · subst e; exact HH.out
            · exact HM.out j hj (by omega)
          case measure => simp [intOf]; omega
      · have HX : Hid (letsB (actsF acts) (o, rs) s = false) := lets_missR HYS.out fun j hj => HM.out j hj (by omega)
        clear hcells7
        go_wp2
        go_ret
        exact ⟨ret_bool HX.out.symm, hbw⟩

set_option maxHeartbeats 800000 in
set_option maxRecDepth 100000 in
theorem refCovers_calls (acts : List (Txt × Txt)) (p x : Pol) (u vp vx : Value) (w : World) (hu : Prs w acts u) (hr : Strs w p.2 vp) (hs : Strs w x.2 vx) (hn : acts.length ≤ 10) (h6 : x.2.length ≤ 6) :
    Calls Tryd.prog 57 #[u, .agg #[.string p.1, vp], .agg #[.string x.1, vx]] w fun e w' => e = .returned (.bool (coversB (actsF acts) p x)) ∧ Below w.heap.size w w' := by
  obtain ⟨o, rs⟩ := p
  obtain ⟨ox, rx⟩ := x
  simp only at hr hs h6
  have hu0 := hu
  have hs0 := hs
  obtain ⟨b1, o1, c1, p1, rfl, _⟩ := hu.cells
  obtain ⟨b0, o0, c0, p0, rfl, hlc, hcm, hp0, hcells⟩ := hr.cells
  obtain ⟨b2, o2, c2, p2, rfl, _⟩ := hs.cells
  have HU : Hid (∀ W, Below w.heap.size w W → Prs W acts (.slice p1 acts.length c1)) := fun W h => hu0.stays (keeps_of_below h)
  have HSX : Hid (∀ W, Below w.heap.size w W → Strs W rx (.slice p2 rx.length c2)) := fun W h => hs0.stays (keeps_of_below h)
  obtain ⟨W2, eW⟩ : ∃ W2, (w.alloc (.cells #[.string o, .slice p0 rs.length c0] 85)).alloc (.cells #[.string ox, .slice p2 rx.length c2] 85) = W2 := ⟨_, rfl⟩
  obtain ⟨z2, hW, m1, m2⟩ := boxes2 eW
  have hc1 := m1 0
  have hc2 := m1 1
  have hc3 := m2 0
  have hc4 := m2 1
  simp only [List.getElem?_toArray, List.getElem?_cons_zero, List.getElem?_cons_succ] at hc1 hc2 hc3 hc4
  have HW := Lib.hid hW
  have HZ := Lib.hid z2
  have HC2 := Lib.hid hc2
  have HC3 := Lib.hid hc3
  have HC4 := Lib.hid hc4
  have HCE : Hid (∀ (i : Nat) (h : i < rs.length), W2.cell? ⟨b0, o0 + i, none⟩ = some (.string rs[i])) := fun i h => (hW.cell (cell_lt (hcells i h))).trans (hcells i h)
  have HPP := Lib.hid hp0
  have HN := Lib.hid hn
  have H6 := Lib.hid h6
  clear m1 m2 hW z2 hu hu0 hs hs0 hr hp0 hcells hn h6
  cases hq : actsF acts o ox with
  | false =>
    have HX : Hid (coversB (actsF acts) (o, rs) (ox, rx) = false) := covers_no1 hq
    have HQ := Lib.hid hq
    clear hq
    go_enter Tryd.func57, Tryd.ntmps57
    go_wp2_with (fail)
    refine (refActs_calls acts o ox _ _ (HU.out _ HW.out) (by have := HN.out; omega)).mono ?_
    rintro e w1 ⟨rfl, hb⟩
    rw [HQ.out]
    go_wp2
    go_ret
    exact ⟨ret_bool HX.out.symm, HW.out.trans (hb.mono HW.out.size)⟩
  | true =>
    have HQ := Lib.hid hq
    clear hq
    go_enter Tryd.func57, Tryd.ntmps57
    go_wp2_with (fail)
    refine (refActs_calls acts o ox _ _ (HU.out _ HW.out) (by have := HN.out; omega)).mono ?_
    rintro e w1 ⟨rfl, hb⟩
    rw [HQ.out]
    have hz := HZ.out
    have hc2' : w1.cell? ⟨w.heap.size, 1, none⟩ = some (.slice p0 rs.length c0) := (hb.cell (p := ⟨w.heap.size, 1, none⟩) (by simp only; omega)).trans HC2.out
    have HB := Lib.hid hb
    clear hb hc1 hc2 hc3 hc4 hz
    go_wp2
    go_loopw [8, 19] (fun _ i wr => ∃ m : Nat, m ≤ rs.length ∧ i = .int .i64 m ∧ Below w1.heap.size w1 wr ∧ Hid (∀ j (hj : j < rs.length), j < m → letsB (actsF acts) (ox, rx) rs[j] = true)) (fun _ i _ => rs.length - (intOf i).toNat)
    case atStart => exact ⟨0, Nat.zero_le _, rfl, Below.refl _ _, fun j _ hj => absurd hj (Nat.not_lt_zero _)⟩
    case round =>
      obtain ⟨m, hm, rfl, hbr, HM⟩ := hrel
      have hb2 : Below W2.heap.size W2 wr := HB.out.trans (hbr.mono HB.out.size)
      have hbw : Below w.heap.size w wr := HW.out.trans (hb2.mono HW.out.size)
      by_cases hltm : m < rs.length
      · have hcell : wr.cell? ⟨b0, o0 + m, none⟩ = some (.string rs[m]) := (hb2.cell (cell_lt (HCE.out m hltm))).trans (HCE.out m hltm)
        have hz := HZ.out
        have hd3 : wr.cell? ⟨w.heap.size + 1, 0, none⟩ = some (.string ox) := (hb2.cell (p := ⟨w.heap.size + 1, 0, none⟩) (by simp only; omega)).trans HC3.out
        have hd4 : wr.cell? ⟨w.heap.size + 1, 1, none⟩ = some (.slice p2 rx.length c2) := (hb2.cell (p := ⟨w.heap.size + 1, 1, none⟩) (by simp only; omega)).trans HC4.out
        obtain rfl := HPP.out (by omega)
        have HLT := Lib.hid hltm
        have HBR := Lib.hid hbr
        have HBW := Lib.hid hbw
        clear hbr hbw hb2 hz hc2'
        cases hh : letsB (actsF acts) (ox, rx) rs[m] with
        | true =>
          have HH := Lib.hid hh
          clear hh
          go_wp2_with (fail)
          refine (refLets_calls acts (ox, rx) rs[m] _ _ _ (HU.out _ HBW.out) (HSX.out _ HBW.out) HN.out H6.out).mono ?_
          rintro e w6 ⟨rfl, hb6⟩
          rw [HH.out]
          have HB6 := Lib.hid (HBR.out.trans (hb6.mono HBR.out.size))
          clear hb6
          go_wp2
          go_roundw
          case rel =>
            refine ⟨m + 1, by omega, by go_num, HB6.out, fun j hj hj' => ?_⟩
            by_cases e : j = m
            · subst e; exact HH.out
            · exact HM.out j hj (by omega)
          case measure => simp [intOf]; omega
        | false =>
          have HX : Hid (coversB (actsF acts) (o, rs) (ox, rx) = false) := covers_no2 (p := (o, rs)) rfl hltm hh
          have HH := Lib.hid hh
          clear hh
          go_wp2_with (fail)
          refine (refLets_calls acts (ox, rx) rs[m] _ _ _ (HU.out _ HBW.out) (HSX.out _ HBW.out) HN.out H6.out).mono ?_
          rintro e w6 ⟨rfl, hb6⟩
          rw [HH.out]
          go_wp2
          go_ret
          exact ⟨ret_bool HX.out.symm, HBW.out.trans (hb6.mono HBW.out.size)⟩
      · have HX : Hid (coversB (actsF acts) (o, rs) (ox, rx) = true) := covers_yes (p := (o, rs)) (rs := rs) rfl HQ.out fun j hj => HM.out j hj (by omega)
        have HBW := Lib.hid hbw
        clear hbw hb2 hbr hc2'
        go_wp2
        go_ret
        exact ⟨ret_bool HX.out.symm, HBW.out⟩

theorem any_takeT {α : Type} {l : List α} {f : α → Bool} {k : Nat} (hk : k < l.length) (h : f l[k] = true) : anyBy (l.take (k + 1)) f = true := by
  rw [any_iff]; exact ⟨l[k], by rw [List.take_succ_eq_append_getElem hk]; exact List.mem_append_right _ (List.mem_singleton.2 rfl), h⟩
theorem any_takeF {α : Type} {l : List α} {f : α → Bool} {k : Nat} (hk : k < l.length) (h : f l[k] = false) : anyBy (l.take (k + 1)) f = anyBy (l.take k) f := by
  unfold anyBy; rw [List.take_succ_eq_append_getElem hk, List.any_append]; simp [h]
theorem any_takeK {α : Type} {l : List α} {f : α → Bool} {k : Nat} (hk : k < l.length) (h : anyBy (l.take k) f = true) : anyBy (l.take (k + 1)) f = true := by
  unfold anyBy at *; rw [List.take_succ_eq_append_getElem hk, List.any_append, h]; rfl
theorem flows_no {q : Txt → Txt → Bool} {a b : Lab} {k : Nat} (hk : k < a.length) (h : (anyBy b fun p => coversB q p a[k]) = false) : flowsB q a b = false := by
  rw [← Bool.not_eq_true, flows_iff]
  intro hf
  obtain ⟨p, hp, e⟩ := hf _ (List.getElem_mem hk)
  have := (any_iff (q := fun p => coversB q p a[k])).2 ⟨p, hp, e⟩
  rw [h] at this
  cases this
theorem flows_yes {q : Txt → Txt → Bool} {a b : Lab} (h : ∀ j (hj : j < a.length), (anyBy b fun p => coversB q p a[j]) = true) : flowsB q a b = true := by
  rw [flows_iff]
  intro x hx
  obtain ⟨k, hk, rfl⟩ := List.getElem_of_mem hx
  exact any_iff.1 (h k hk)

set_option maxHeartbeats 1600000 in
set_option maxRecDepth 100000 in
theorem refMay_calls (acts : List (Txt × Txt)) (a b : Lab) (u va vb : Value) (w : World) (hu : Prs w acts u) (hva : Lbl w a va) (hvb : Lbl w b vb) (hn : acts.length ≤ 10) (h6 : ∀ x ∈ a, x.2.length ≤ 6) :
    Calls Tryd.prog 39 #[u, va, vb] w fun e w' => e = .returned (.bool (flowsB (actsF acts) a b)) ∧ Below w.heap.size w w' := by
  have hu0 := hu
  obtain ⟨b1, o1, c1, p1, rfl, _⟩ := hu.cells
  obtain ⟨b2, o2, c2, p2, rfl, hlc2, hcm2, hp2, hcells2⟩ := hva.cells
  obtain ⟨b3, o3, c3, p3, rfl, hlc3, hcm3, hp3, hcells3⟩ := hvb.cells
  have HU : Hid (∀ W, Below w.heap.size w W → Prs W acts (.slice p1 acts.length c1)) := fun W h => hu0.stays (keeps_of_below h)
  have HP2 := Lib.hid hp2
  have HP3 := Lib.hid hp3
  have HC2 := Lib.hid hcells2
  have HC3 := Lib.hid hcells3
  have HN := Lib.hid hn
  have H6 := Lib.hid h6
  clear hu hu0 hva hvb hp2 hp3 hcells2 hcells3 hn h6
  go_enter Tryd.func39, Tryd.ntmps39
  go_wp2
  go_loopw [14] (fun i wr => ∃ (k : Nat) (wo : World), k ≤ a.length ∧ i = .int .i64 k ∧ wo = wr ∧ Hid (Below w.heap.size w wo) ∧ Hid (∀ j (hj : j < a.length), j < k → (anyBy b fun p => coversB (actsF acts) p a[j]) = true)) (fun i _ => a.length - (intOf i).toNat)
  case atStart => exact ⟨0, _, Nat.zero_le _, rfl, rfl, Below.refl _ _, fun j _ hj => absurd hj (Nat.not_lt_zero _)⟩
  case round =>
    obtain ⟨k, wo, hk, rfl, rfl, HB, HM⟩ := hrel
    by_cases hlt : k < a.length
    · obtain ⟨ur, hca, hcb, hur⟩ := HC2.out k hlt
      have hcell1 : wo.cell? ⟨b2, o2 + k * 2, none⟩ = some (.string a[k].1) := (HB.out.cell (cell_lt hca)).trans hca
      have hcell2 : wo.cell? ⟨b2, o2 + k * 2 + 1, none⟩ = some ur := (HB.out.cell (cell_lt hcb)).trans hcb
      obtain rfl := HP2.out (by omega)
      obtain ⟨br, or_, cr, pr, rfl, _⟩ := hur.cells
      have HSX : Hid (∀ W, Below w.heap.size w W → Strs W a[k].2 (.slice pr a[k].2.length cr)) := fun W h => hur.stays (keeps_of_below h)
      have H6K : Hid (a[k].2.length ≤ 6) := H6.out _ (List.getElem_mem hlt)
      have HLT := Lib.hid hlt
      obtain ⟨W3, eW⟩ : ∃ W3, wo.alloc (.cells #[.string a[k].1, .slice pr a[k].2.length cr] 85) = W3 := ⟨_, rfl⟩
      obtain ⟨z3, hW, m3⟩ := boxes1 eW
      have j0 := m3 0
      have j1 := m3 1
      simp only [List.getElem?_toArray, List.getElem?_cons_zero, List.getElem?_cons_succ] at j0 j1
      have HJ0 := Lib.hid j0
      have HJ1 := Lib.hid j1
      have HZ := Lib.hid z3
      have HB3 : Hid (Below w.heap.size w W3) := HB.out.trans (hW.mono HB.out.size)
      clear hca hcb hur m3 hW z3 j0 j1
      go_wp2
      go_loopw [9, 20] (fun t i wr => ∃ (m : Nat) (wi : World), m ≤ b.length ∧ i = .int .i64 m ∧ t = .bool (anyBy (b.take m) fun p => coversB (actsF acts) p a[k]) ∧ wi = wr ∧ Hid (Below W3.heap.size W3 wi)) (fun _ i _ => b.length - (intOf i).toNat)
      case atStart => exact ⟨0, _, Nat.zero_le _, rfl, rfl, rfl, by unfold Hid; subst eW; exact Below.refl _ _⟩
      case round =>
        clear hcell1 hcell2
        obtain ⟨m, wi, hm, rfl, rfl, rfl, HBI⟩ := hrel
        have HBW : Hid (Below w.heap.size w wi) := HB3.out.trans (HBI.out.mono HB3.out.size)
        by_cases hltm : m < b.length
        · obtain ⟨us, hca, hcb, hus⟩ := HC3.out m hltm
          have hcell1 : wi.cell? ⟨b3, o3 + m * 2, none⟩ = some (.string b[m].1) := (HBW.out.cell (cell_lt hca)).trans hca
          have hcell2 : wi.cell? ⟨b3, o3 + m * 2 + 1, none⟩ = some us := (HBW.out.cell (cell_lt hcb)).trans hcb
          obtain rfl := HP3.out (by omega)
          obtain ⟨bs, os, cs, ps, rfl, _⟩ := hus.cells
          obtain ⟨W5, eW5⟩ : ∃ W5, wi.alloc (.cells #[.string b[m].1, .slice ps b[m].2.length cs] 85) = W5 := ⟨_, rfl⟩
          obtain ⟨z5, hW5, m5⟩ := boxes1 eW5
          have j0 := m5 0
          have j1 := m5 1
          simp only [List.getElem?_toArray, List.getElem?_cons_zero, List.getElem?_cons_succ] at j0 j1
          have HB5 : Hid (Below W3.heap.size W3 W5) := HBI.out.trans (hW5.mono HBI.out.size)
          have HBW5 : Hid (Below w.heap.size w W5) := HB3.out.trans (HB5.out.mono HB3.out.size)
          have HSP : Hid (Strs W5 b[m].2 (.slice ps b[m].2.length cs)) := hus.stays (keeps_of_below HBW5.out)
          have hz := HZ.out
          have k0 : W5.cell? ⟨wo.heap.size, 0, none⟩ = some (.string a[k].1) := (HB5.out.cell (p := ⟨wo.heap.size, 0, none⟩) (by simp only; omega)).trans HJ0.out
          have k1 : W5.cell? ⟨wo.heap.size, 1, none⟩ = some (.slice pr a[k].2.length cr) := (HB5.out.cell (p := ⟨wo.heap.size, 1, none⟩) (by simp only; omega)).trans HJ1.out
          have HLTM := Lib.hid hltm
          clear hca hcb hus m5 hW5 z5 hz
          cases hok : anyBy (b.take m) fun p => coversB (actsF acts) p a[k] with
          | true =>
            have HX : Hid ((anyBy (b.take (m + 1)) fun p => coversB (actsF acts) p a[k]) = true) := any_takeK hltm hok
            clear hok
            go_wp2
            go_roundw
            case rel => exact ⟨m + 1, _, by omega, by go_num, by rw [HX.out], rfl, HB5.out⟩
            case measure => simp [intOf]; omega
          | false =>
            have HX : Hid ((anyBy (b.take (m + 1)) fun p => coversB (actsF acts) p a[k]) = coversB (actsF acts) b[m] a[k]) := by
              unfold Hid
              cases hc : coversB (actsF acts) b[m] a[k] with
              | true => exact any_takeT hltm hc
              | false => rw [any_takeF hltm hc]; exact hok
            clear hok
            go_wp2_with (fail)
            refine (refCovers_calls acts b[m] a[k] _ _ _ _ (HU.out _ HBW5.out) HSP.out (HSX.out _ HBW5.out) HN.out H6K.out).mono ?_
            rintro e w6 ⟨rfl, hb6⟩
            have HB6 : Hid (Below W3.heap.size W3 w6) := HB5.out.trans (hb6.mono HB5.out.size)
            clear hb6
            go_wp2
            go_roundw
            case rel => exact ⟨m + 1, _, by omega, by go_num, by rw [HX.out], rfl, HB6.out⟩
            case measure => simp [intOf]; omega
        · obtain rfl : m = b.length := by omega
          rw [List.take_length]
          cases hok : anyBy b fun p => coversB (actsF acts) p a[k] with
          | true =>
            have HOK := Lib.hid hok
            clear hok
            go_wp2
            go_roundw
            case rel =>
              refine ⟨k + 1, _, by have := HLT.out; omega, by go_num, rfl, HBW.out, fun j hj hj' => ?_⟩
              by_cases e : j = k
              · subst e; exact HOK.out
              · exact HM.out j hj (by omega)
            case measure => simp [intOf]; have := HLT.out; omega
          | false =>
            have HX : Hid (flowsB (actsF acts) a b = false) := flows_no HLT.out hok
            clear hok
            go_wp2
            go_ret
            exact ⟨ret_bool HX.out.symm, HBW.out⟩
    · have HX : Hid (flowsB (actsF acts) a b = true) := flows_yes fun j hj => HM.out j hj (by omega)
      go_wp2
      go_ret
      exact ⟨ret_bool HX.out.symm, HB.out⟩

/-- How many of the first policies let somebody read. -/
def cntL (q : Txt → Txt → Bool) (x : Lab) (s : Txt) (m : Nat) : Nat := ((x.take m).filter fun p => letsB q p s).length
theorem cntL_le (q : Txt → Txt → Bool) (x : Lab) (s : Txt) (m : Nat) : cntL q x s m ≤ m := by
  unfold cntL; exact Nat.le_trans (List.length_filter_le _ _) (List.length_take_le _ _)
theorem cntL_hit {q : Txt → Txt → Bool} {x : Lab} {s : Txt} {m : Nat} (hm : m < x.length) (h : letsB q x[m] s = true) : cntL q x s (m + 1) = cntL q x s m + 1 := by
  unfold cntL; rw [List.take_succ_eq_append_getElem hm, List.filter_append]; simp [h]
theorem cntL_miss {q : Txt → Txt → Bool} {x : Lab} {s : Txt} {m : Nat} (hm : m < x.length) (h : letsB q x[m] s = false) : cntL q x s (m + 1) = cntL q x s m := by
  unfold cntL; rw [List.take_succ_eq_append_getElem hm, List.filter_append]; simp [h]
theorem cntL_all {q : Txt → Txt → Bool} {x : Lab} {s : Txt} : (anyBy x fun p => !letsB q p s) = !decide (cntL q x s x.length = x.length) := by
  unfold cntL
  rw [List.take_length, Bool.eq_iff_iff, any_iff, Bool.not_eq_true', decide_eq_false_iff_not, List.length_filter_eq_length_iff]
  constructor
  · rintro ⟨p, hp, h⟩ hall
    rw [hall p hp] at h
    cases h
  · intro h
    apply Classical.byContradiction
    intro hn
    refine h fun p hp => ?_
    cases e : letsB q p s with
    | true => rfl
    | false => exact absurd ⟨p, hp, by rw [e]; rfl⟩ hn

set_option maxHeartbeats 1600000 in
set_option maxRecDepth 100000 in
theorem refReaders_calls (l : List Txt) (acts : List (Txt × Txt)) (x : Lab) (v u t : Value) (w : World) (hv : Strs w l v) (hu : Prs w acts u) (ht : Lbl w x t) (hn : acts.length ≤ 10) (hl6 : l.length ≤ 6) (h6 : ∀ p ∈ x, p.2.length ≤ 6) :
    Calls Tryd.prog 29 #[v, u, t] w fun e w' => ∃ y, e = .returned y ∧ Strs w' (readsL (actsF acts) l x) y ∧ Below w.heap.size w w' := by
  have hu0 := hu
  obtain ⟨b0, o0, c0, p0, rfl, hlc0, hcm0, hp0, hcells0⟩ := hv.cells
  obtain ⟨b1, o1, c1, p1, rfl, _⟩ := hu.cells
  obtain ⟨b2, o2, c2, p2, rfl, hlc2, hcm2, hp2, hcells2⟩ := ht.cells
  obtain ⟨t0, hi, hz0, hz1, hz2⟩ := info_parts Tryd.info_stringL
  have HU : Hid (∀ W, Below w.heap.size w W → Prs W acts (.slice p1 acts.length c1)) := fun W h => hu0.stays (keeps_of_below h)
  have HP0 := Lib.hid hp0
  have HP2 := Lib.hid hp2
  have HC0 := Lib.hid hcells0
  have HC2 := Lib.hid hcells2
  have HN := Lib.hid hn
  have H6 := Lib.hid h6
  have HALL : Hid (readsTo (actsF acts) l x l.length = readsL (actsF acts) l x) := by unfold Hid readsTo readsL; rw [List.take_length]
  clear hu hu0 ht hv hp0 hp2 hcells0 hcells2 hn h6
  go_enter Tryd.func29, Tryd.ntmps29
  go_wp2
  go_loopw [7, 15] (fun y i wr => ∃ (k : Nat) (wo : World) (yv : Value), k ≤ l.length ∧ i = .int .i64 k ∧ wo = wr ∧ yv = y ∧ Hid (Below w.heap.size w wo) ∧ Hid (wo.ownsRow w.heap.size 9 1 yv (readsTo (actsF acts) l x k).length ((readsTo (actsF acts) l x k).map Value.string))) (fun _ i _ => l.length - (intOf i).toNat)
  case atStart => exact ⟨0, _, _, Nat.zero_le _, rfl, rfl, rfl, Below.refl _ _, World.ownsRow_nil _ _ _ _⟩
  case round =>
    obtain ⟨k, wo, yv, hk, rfl, rfl, rfl, HB, HOW⟩ := hrel
    by_cases hlt : k < l.length
    · have g0 := HC0.out k hlt
      have hcell : wo.cell? ⟨b0, o0 + k, none⟩ = some (.string l[k]) := (HB.out.cell (cell_lt g0)).trans g0
      obtain rfl := HP0.out (by omega)
      have HLT := Lib.hid hlt
      have hle := readsTo_le (actsF acts) l x k
      clear g0
      go_wp2
      go_loopw [10, 21] (fun n i wr => ∃ (m : Nat) (wi : World), m ≤ x.length ∧ i = .int .i64 m ∧ n = .int .i64 (cntL (actsF acts) x l[k] m) ∧ wi = wr ∧ Hid (Below wo.heap.size wo wi)) (fun _ i _ => x.length - (intOf i).toNat)
      case atStart => exact ⟨0, _, Nat.zero_le _, rfl, rfl, rfl, Below.refl _ _⟩
      case round =>
        clear hcell
        obtain ⟨m, wi, hm, rfl, rfl, rfl, HBI⟩ := hrel
        have HBW : Hid (Below w.heap.size w wi) := HB.out.trans (HBI.out.mono HB.out.size)
        by_cases hltm : m < x.length
        · obtain ⟨us, hca, hcb, hus⟩ := HC2.out m hltm
          have hcell1 : wi.cell? ⟨b2, o2 + m * 2, none⟩ = some (.string x[m].1) := (HBW.out.cell (cell_lt hca)).trans hca
          have hcell2 : wi.cell? ⟨b2, o2 + m * 2 + 1, none⟩ = some us := (HBW.out.cell (cell_lt hcb)).trans hcb
          obtain rfl := HP2.out (by omega)
          obtain ⟨bs, os, cs, ps, rfl, _⟩ := hus.cells
          obtain ⟨W5, eW5⟩ : ∃ W5, wi.alloc (.cells #[.string x[m].1, .slice ps x[m].2.length cs] 85) = W5 := ⟨_, rfl⟩
          obtain ⟨z5, hW5, m5⟩ := boxes1 eW5
          have j0 := m5 0
          have j1 := m5 1
          simp only [List.getElem?_toArray, List.getElem?_cons_zero, List.getElem?_cons_succ] at j0 j1
          have HB5 : Hid (Below wo.heap.size wo W5) := HBI.out.trans (hW5.mono HBI.out.size)
          have HBW5 : Hid (Below w.heap.size w W5) := HB.out.trans (HB5.out.mono HB.out.size)
          have HSP : Hid (Strs W5 x[m].2 (.slice ps x[m].2.length cs)) := hus.stays (keeps_of_below HBW5.out)
          have H6M : Hid (x[m].2.length ≤ 6) := H6.out _ (List.getElem_mem hltm)
          have hcl := cntL_le (actsF acts) x l[k] m
          clear hca hcb hus m5 hW5 z5
          cases hq : letsB (actsF acts) x[m] l[k] with
          | true =>
            have HX := Lib.hid (cntL_hit hltm hq)
            have HQ := Lib.hid hq
            clear hq
            go_wp2_with (fail)
            refine (refLets_calls acts x[m] l[k] _ _ _ (HU.out _ HBW5.out) HSP.out HN.out H6M.out).mono ?_
            rintro e w6 ⟨rfl, hb6⟩
            rw [HQ.out]
            have HB6 : Hid (Below wo.heap.size wo w6) := HB5.out.trans (hb6.mono HB5.out.size)
            clear hb6
            go_wp2
            go_roundw
            case rel => exact ⟨m + 1, _, by omega, by go_num, by rw [HX.out]; go_num, rfl, HB6.out⟩
            case measure => simp [intOf]; omega
          | false =>
            have HX := Lib.hid (cntL_miss hltm hq)
            have HQ := Lib.hid hq
            clear hq
            go_wp2_with (fail)
            refine (refLets_calls acts x[m] l[k] _ _ _ (HU.out _ HBW5.out) HSP.out HN.out H6M.out).mono ?_
            rintro e w6 ⟨rfl, hb6⟩
            rw [HQ.out]
            have HB6 : Hid (Below wo.heap.size wo w6) := HB5.out.trans (hb6.mono HB5.out.size)
            clear hb6
            go_wp2
            go_roundw
            case rel => exact ⟨m + 1, _, by omega, by go_num, by rw [HX.out], rfl, HB6.out⟩
            case measure => simp [intOf]; omega
        · obtain rfl : m = x.length := by omega
          have hcall := cntL_all (q := actsF acts) (x := x) (s := l[k])
          generalize hcn : cntL (actsF acts) x l[k] x.length = cn at *
          have HOI := Lib.hid (own_belowA HOW.out HBI.out)
          have hsz := HBI.out.size
          have hszw := HB.out.size
          clear hcn
          by_cases he : cn = x.length
          · have HX : Hid (readsTo (actsF acts) l x (k + 1) = readsTo (actsF acts) l x k ++ [l[k]]) := readsTo_hit HLT.out (hcall.trans (by rw [he]; simp))
            have q1 : ((cn : Int) == (x.length : Int)) = true := by rw [he]; simp
            have hown6 := HOI.out
            clear hcall he
            go_wp2_with (at_builtin; refine wpList_append_own _ rfl _ _ 22 rfl w.heap.size 9 t0 (.string ByteArray.empty) 1 16 Tryd.underlying22 hi hz0 hz1 hz2 rfl (by decide) _ _ _ rfl (hown6.alloc _) ⟨wi.heap.size, 0, none⟩ 1 1 [.string l[k]] rfl rfl ?c1 ?c2 ?c3 ?c4 ?c5 ?_)
            case c1 =>
              intro i u hj
              match i, hj with
              | 0, hj => simp at hj; subst hj; simp [Addr.add]; try rfl
            case c2 => intro u hu; simp at hu; subst hu; rfl
            case c3 => unfold maxLen; omega
            case c4 => omega
            case c5 => simp; omega
            · intro v' w7 hown' hgrow _
              go_wp2
              go_roundw
              case rel =>
                refine ⟨k + 1, _, _, by have := HLT.out; omega, by go_num, rfl, rfl, (HBW.out.alloc HBW.out.size _).grown hgrow (by simp; omega) (fun q hq => (hown6.lt q hq).1), ?_⟩
                unfold Hid
                rw [HX.out, List.length_append, List.map_append]
                exact hown'
              case measure => simp [intOf]; have := HLT.out; omega
          · have HX : Hid (readsTo (actsF acts) l x (k + 1) = readsTo (actsF acts) l x k) := readsTo_miss HLT.out (hcall.trans (by simp [he]))
            have q1 : ((cn : Int) == (x.length : Int)) = false := by rw [beq_eq_false_iff_ne]; omega
            clear hcall he
            go_wp2
            go_roundw
            case rel => exact ⟨k + 1, _, _, by have := HLT.out; omega, by go_num, rfl, rfl, HBW.out, by unfold Hid; rw [HX.out]; exact HOI.out⟩
            case measure => simp [intOf]; have := HLT.out; omega
    · obtain rfl : k = l.length := by omega
      rw [HALL.out] at HOW
      go_wp2
      go_ret
      exact ⟨_, rfl, Strs.of_owns HOW.out, HB.out⟩
end Go.Proofs.YtfbieagkhbmgjaaDoor
