/-
  label.check, label.Check: whether a label is right.
-/
import Derived.Test.YtfbieagkhbmgjaaDoorLabB
namespace Go.Proofs.YtfbieagkhbmgjaaDoor
open Go.RowKit Go.Maps
set_option linter.unusedVariables false
set_option linter.unusedSimpArgs false

theorem Tryd.info_stringL : (Tryd.prog.info? 9).map (fun i => (i.zero, i.size, i.bytes)) = some (some (.string ByteArray.empty), 1, 16) := by kernel_rfl

/-- Laid one behind the other: an owner and readers. -/
theorem strs_of_own {w : World} {o : Txt} {rs : List Txt} {base n : Nat} {e : TypeId} {v : Value} {xs : List Value} (h : w.ownsRow base e 1 v n ([.string o] ++ xs)) (hn : n = 1 + rs.length) (hr : Rows txt 1 w rs xs) : Strs w (o :: rs) v := by
  have hn' : n = (o :: rs).length := by rw [hn]; simp; omega
  subst hn'
  exact SliceOf.of_rows h ⟨[.string o], xs, rfl, rfl, rfl, hr⟩

set_option maxHeartbeats 400000 in
set_option maxRecDepth 100000 in
theorem labcheck_calls (l : List Txt) (x : Lab) (v u : Value) (w : World) (hv : Strs w l v) (hu : Lbl w x u) :
    Calls Tryd.prog 56 #[v, u] w fun e w' => e = .returned (.int .i64 (labErr l x)) ∧ Below w.heap.size w w' := by
  have hv0 := hv
  obtain ⟨b0, o0, c0, p0, rfl, hlc, hcm, hp0, hcells0⟩ := hv.cells
  obtain ⟨b, o, c, p, rfl, hlc1, hcm1, hp, hcells⟩ := hu.cells
  clear hp0 hcells0 hv hu
  obtain ⟨t0, hi, hz0, hz1, hz2⟩ := info_parts Tryd.info_stringL
  by_cases h0 : x.length ≤ 200
  · have h0' : (x.length : Int) ≤ 200 := by omega
    go_enter Tryd.func56, Tryd.ntmps56
    go_wp2
    go_loopw [14] (fun i wr => ∃ k : Nat, k ≤ x.length ∧ i = .int .i64 k ∧ Below w.heap.size w wr ∧ Hid (∀ j (hj : j < x.length), j < k → polErr l x[j] = 0)) (fun i _ => x.length - (intOf i).toNat)
    case atStart => exact ⟨0, Nat.zero_le _, rfl, Below.refl _ _, fun j _ hj => absurd hj (Nat.not_lt_zero _)⟩
    case round =>
      obtain ⟨k, hk, rfl, hb, HN⟩ := hrel
      by_cases hlt : k < x.length
      · obtain ⟨ur, hca, hcb, hur⟩ := hcells k hlt
        have hcell1 : wr.cell? ⟨b, o + k * 2, none⟩ = some (.string x[k].1) := (hb.cell (cell_lt hca)).trans hca
        have hcell2 : wr.cell? ⟨b, o + k * 2 + 1, none⟩ = some ur := (hb.cell (cell_lt hcb)).trans hcb
        obtain rfl := hp (by omega)
        clear hp hcells hca hcb
        obtain ⟨pr, cr, xs, rfl, hl1, hl2, hrow, hpn, hnews⟩ := SliceOf.rows (by decide) hur
        by_cases h6 : 6 < x[k].2.length
        · have h6' : 6 < (x[k].2.length : Int) := by omega
          have HX : Hid (labErr l x = 2) := by
            show labErr l x = 2
            have e := polErr_many (l := l) h6
            rw [labErr_at h0 hlt (by rw [e]; omega) HN.out, e]
          go_wp2
          go_ret
          exact ⟨ret_int HX.out.symm, hb.alloc hb.size _⟩
        · have h6' : (x[k].2.length : Int) ≤ 6 := by omega
          have hbA : Below w.heap.size w (wr.alloc (.cells #[.string x[k].1, .slice pr x[k].2.length cr] 85)) := hb.alloc hb.size _
          have hk2 := keeps_of_below (((Below.refl wr.heap.size wr).alloc (Nat.le_refl _) (.cells #[.string x[k].1, .slice pr x[k].2.length cr] 85)).alloc (by simp) (.cells #[.string x[k].1] 9))
          have hk3 := (keeps_of_below hb).trans hk2
          have HB := Lib.hid hb
          have HROW := Lib.hid hrow
          have HNEWS := Lib.hid hnews
          have hsize := hb.size
          have hlen6 : x[k].2.length ≤ 6 := by omega
          have hown0 : ((wr.alloc (.cells #[.string x[k].1, .slice pr x[k].2.length cr] 85)).alloc (.cells #[.string x[k].1] 9)).ownsRow w.heap.size 9 1 (.slice (some ⟨wr.heap.size + 1, 0, none⟩) 1 1) 1 [.string x[k].1] := by
            have := World.ownsRow_lit (base := w.heap.size) (e := 9) (size := 1) (wr.alloc (.cells #[.string x[k].1, .slice pr x[k].2.length cr] 85)) #[.string x[k].1] 1 hbA.size (by unfold maxLen; decide) rfl
            simpa using this
          clear hrow hnews hur hbA hk2
          go_wp2_with (at_builtin; refine wpList_append_src _ rfl _ _ 22 rfl w.heap.size 9 t0 (.string ByteArray.empty) 1 16 Tryd.underlying22 hi hz0 hz1 hz2 rfl (by decide) _ _ _ rfl hown0 pr x[k].2.length cr xs rfl HROW.out.length hpn ?c1 (Rows.plain txt_plain HROW.out) ?c2 ?c3 ?c4 ?_)
          case c1 => exact fun ad e j u hu => cell_keep hk3 (HNEWS.out ad e j u hu)
          case c2 => unfold maxLen; omega
          case c3 => omega
          case c4 => simp; omega
          · intro v' w5 hown' hgrow
            have hS : Strs w5 (x[k].1 :: x[k].2) v' := strs_of_own hown' rfl (Rows.free (One.free _) HROW.out)
            have hb5 : Below w.heap.size w w5 := ((HB.out.alloc HB.out.size _).alloc (by have := HB.out.size; simp; omega) _).grown hgrow (by have := HB.out.size; simp; omega) (fun q hq => by simp [Value.ownBlock] at hq; have := HB.out.size; omega)
            have HB5 := Lib.hid hb5
            generalize hys : x[k].1 :: x[k].2 = ys at hS
            have HYS := Lib.hid hys
            obtain ⟨b7, o7, c7, p7, rfl, hl7, hc7, hp7, hcells7⟩ := hS.cells
            obtain rfl := hp7 (by rw [← hys]; simp)
            clear hys
            clear hown' hgrow hS hk3 hcell1 hcell2 hb hp7
            go_wp2
            go_loopw [8, 29] (fun _ i wr => ∃ m : Nat, m ≤ ys.length ∧ i = .int .i64 m ∧ Below w5.heap.size w5 wr ∧ Hid (∀ j (hj : j < ys.length), j < m → has l ys[j] = true)) (fun _ i _ => ys.length - (intOf i).toNat)
            case atStart => exact ⟨0, Nat.zero_le _, rfl, Below.refl _ _, fun j _ hj => absurd hj (Nat.not_lt_zero _)⟩
            case round =>
              obtain ⟨m, hm, rfl, hbr, HM⟩ := hrel
              have hbw : Below w.heap.size w wr := HB5.out.trans (hbr.mono HB5.out.size)
              by_cases hltm : m < ys.length
              · have hcell : wr.cell? ⟨b7, o7 + m, none⟩ = some (.string ys[m]) := (hbr.cell (cell_lt (hcells7 m hltm))).trans (hcells7 m hltm)
                clear hcells7
                have hS := hv0.stays (keeps_of_below hbw)
                generalize hy : ys[m] = y at *
                have HY := Lib.hid hy
                clear hy
                cases hh : has l y with
                | true =>
                  have HH := Lib.hid hh
                  go_wp2_with (fail)
                  refine (contains_calls l y _ _ hS).mono ?_
                  rintro e w' ⟨rfl, rfl⟩
                  rw [hh]
                  clear hh
                  go_wp2
                  go_roundw
                  case rel =>
                    refine ⟨m + 1, by omega, by go_num, hbr, fun j hj hj' => ?_⟩
                    by_cases e : j = m
                    · subst e; rw [HY.out]; exact HH.out
                    · exact HM.out j hj (by omega)
                  case measure => simp [intOf]; omega
                | false =>
                  have HX : Hid (labErr l x = 5) := by
                    show labErr l x = 5
                    have e := polErr_who HYS.out h6 hltm (by rw [HY.out]; exact hh)
                    rw [labErr_at h0 hlt (by rw [e]; omega) HN.out, e]
                  go_wp2_with (fail)
                  refine (contains_calls l y _ _ hS).mono ?_
                  rintro e w' ⟨rfl, rfl⟩
                  rw [hh]
                  clear hh
                  go_wp2
                  go_ret
                  exact ⟨ret_int HX.out.symm, hbw⟩
              · have HX : Hid (polErr l x[k] = 0) := polErr_ok HYS.out h6 fun j hj => HM.out j hj (by omega)
                clear hcells7
                go_wp2
                go_roundw
                case rel =>
                  refine ⟨k + 1, by omega, by go_num, hbw, fun j hj hj' => ?_⟩
                  by_cases e : j = k
                  · subst e; exact HX.out
                  · exact HN.out j hj (by omega)
                case measure => simp [intOf]; omega
      · have HX : Hid (labErr l x = 0) := labErr_none h0 fun j hj => HN.out j hj (by omega)
        clear hp hcells
        go_wp2
        go_ret
        exact ⟨ret_int HX.out.symm, hb⟩
  · have h0' : 200 < (x.length : Int) := by omega
    have HX : Hid (labErr l x = 2) := by show labErr l x = 2; unfold labErr; rw [if_pos (by omega)]
    go_enter Tryd.func56, Tryd.ntmps56
    go_wp2
    go_ret
    exact ⟨ret_int HX.out.symm, Below.refl _ _⟩

/-- What is wrong with chiefs, or else with a label. -/
def labE (l : List Txt) (acts : List (Txt × Txt)) (x : Lab) : Int := if checkC l acts ≠ 0 then checkC l acts else labErr l x
theorem labCheck_calls (l : List Txt) (acts : List (Txt × Txt)) (x : Lab) (v u t : Value) (w : World) (hv : Strs w l v) (hu : Prs w acts u) (ht : Lbl w x t) :
    Calls Tryd.prog 38 #[v, u, t] w fun e w' => e = .returned (.int .i64 (labE l acts x)) ∧ Below w.heap.size w w' := by
  obtain ⟨b0, o0, c0, p0, rfl, _⟩ := hv.cells
  obtain ⟨b1, o1, c1, p1, rfl, _⟩ := hu.cells
  obtain ⟨b2, o2, c2, p2, rfl, _⟩ := ht.cells
  by_cases hc : checkC l acts = 0
  · have HE : Hid (labE l acts x = labErr l x) := by show labE l acts x = _; unfold labE; rw [if_neg (by omega)]
    go_enter Tryd.func38, Tryd.ntmps38
    go_wp2_with (fail)
    refine (check_calls l acts _ _ _ hv hu).mono ?_
    rintro e w1 ⟨rfl, hb1⟩
    rw [hc]
    clear hc
    go_wp2_with (fail)
    refine (labcheck_calls l x _ _ _ (hv.stays (keeps_of_below hb1)) (ht.stays (keeps_of_below hb1))).mono ?_
    rintro e w2 ⟨rfl, hb2⟩
    go_wp2
    go_ret
    exact ⟨ret_int HE.out.symm, hb1.trans (hb2.mono hb1.size)⟩
  · have HE : Hid (labE l acts x = checkC l acts) := by show labE l acts x = _; unfold labE; rw [if_pos (by omega)]
    have hq : (checkC l acts != 0) = true := by simpa using hc
    have hq2 : (checkC l acts == 0) = false := by simpa using hc
    clear hc
    go_enter Tryd.func38, Tryd.ntmps38
    go_wp2_with (fail)
    refine (check_calls l acts _ _ _ hv hu).mono ?_
    rintro e w1 ⟨rfl, hb1⟩
    go_wp2
    go_ret
    exact ⟨ret_int HE.out.symm, hb1⟩
end Go.Proofs.YtfbieagkhbmgjaaDoor
