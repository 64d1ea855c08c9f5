/-
  cloisterlaw.ViewMore: whoever acts for more sees no less: the call returns true.
-/
import Derived.Test.YtcobgbkoeehdnaaViewP
import Derived.Test.YtcobgbkoeehdnaaCat
namespace Go.Proofs.Ytcobgbkoeehdnaa
open Go.RowKit Go.Maps
set_option linter.unusedVariables false
set_option linter.unusedSimpArgs false

/-- A region that draws its order, whose operations are written out, each of which yields the same in every world of a class. -/
theorem wp_region_class {P : Program} {id : Nat} {Q : Exit → Act → World → Prop} {a : Act} {w : World} {l : List Oper} (C : World → Prop) (hm : P.follows .mixedOrders = true) (hB : Region.lexB .any l.toArray = true) (hC : C w.drew)
    (h : wpQuiet P l.toArray C (fun a' => ∀ w', C w' → Q .normal a' w') l a) : (Code.region id l.toArray true).wp P Q a w :=
  wp_region_quiet (C := C) hm hB hC (by simpa using h)

set_option maxHeartbeats 2000000 in
set_option maxRecDepth 100000 in
theorem viewMore_calls (l : List Txt) (acts more : List (Txt × Txt)) (who : Txt) (x : List Evt) (v u t y : Value) (w : World) (hv : Strs w l v) (hu : Prs w acts u) (ht : Prs w more t) (hy : Evs w x y)
    (hl : okList okTxt l) (hxo : okList okEvt x) (hn : acts.length + more.length ≤ 2097152) :
    Calls Try.prog 5 #[v, u, t, .string who, y] w fun e w' => e = .returned (.bool true) ∧ Below w.heap.size w w' := by
  obtain ⟨b0, o0, c0, p0, rfl, hlc0, hcm0, hp0, hcells0⟩ := hv.cells
  obtain ⟨b1, o1, c1, p1, rfl, _⟩ := hu.cells
  obtain ⟨b4, o4, c4, p4, rfl, _⟩ := ht.cells
  obtain ⟨b5, o5, c5, p5, rfl, _⟩ := hy.cells
  have bad : ∀ e : Int, e ≠ 0 → (e != 0) = true ∧ (e == 0) = false := fun e h => by simp [h]
  have BAD := Lib.hid bad
  have HC0 := Lib.hid hcells0
  have HP0 := Lib.hid hp0
  clear bad hcells0 hp0
  go_enter Try.func5, Try.ntmps5
  go_wp2_with (fail)
  refine (seen_calls l acts who x _ _ _ _ hv hu hy hl hxo).mono ?_
  rintro e w1 ⟨va, rfl, hva, hb1⟩
  have HA := Lib.hid hva
  obtain ⟨b6, o6, c6, p6, rfl, hlc6, hcm6, hp6, hcells6⟩ := hva.bare view_bare
  have HB1 := Lib.hid hb1
  have HC6 := Lib.hid hcells6
  have HP6 := Lib.hid hp6
  clear hva hb1 hcells6 hp6
  go_wp2_with (fail)
  have hba : Below w.heap.size w (w1.alloc (.cells #[.slice p1 acts.length c1, .slice p4 more.length c4] 39)) := HB1.out.alloc HB1.out.size _
  have hba1 : Below w1.heap.size w1 (w1.alloc (.cells #[.slice p1 acts.length c1, .slice p4 more.length c4] 39)) := (Below.refl _ _).alloc (Nat.le_refl _) _
  refine (concatP_calls acts more _ _ w1.heap.size 0 _ (hu.stays (keeps_of_below hba)) (ht.stays (keeps_of_below hba)) (World.cell?_alloc_mark _ _ _ _ _) (World.cell?_alloc_mark _ _ _ _ _) hn).mono ?_
  rintro e w2 ⟨z, rfl, hz, hb2⟩
  have HB2 := Lib.hid (hba.trans (hb2.mono hba.size))
  have HB12 := Lib.hid (hba1.trans (hb2.mono hba1.size))
  clear hba hba1 hb2
  have HLAW : Hid (seenE l acts who x = 0 → seenE l (acts ++ more) who x = 0 → (seenR l acts who x).Sublist (seenR l (acts ++ more) who x)) := fun h1 h2 => view_less h1 h2
  generalize acts ++ more = all at *
  have HZ := Lib.hid hz
  obtain ⟨b7, o7, c7, p7, rfl, _⟩ := hz.cells
  clear hz
  go_wp2_with (fail)
  refine (seen_calls l all who x _ _ _ _ (hv.stays (keeps_of_below HB2.out)) HZ.out (hy.stays (keeps_of_below HB2.out)) hl hxo).mono ?_
  rintro e w3 ⟨vb, rfl, hvb, hb3⟩
  obtain ⟨b8, o8, c8, p8, rfl, hlc8, hcm8, hp8, hcells8⟩ := hvb.bare view_bare
  have HB3 := Lib.hid (HB2.out.trans (hb3.mono HB2.out.size))
  have HB13 := Lib.hid (HB12.out.trans (hb3.mono HB12.out.size))
  have HB23 := Lib.hid hb3
  have HC8 := Lib.hid hcells8
  have HP8 := Lib.hid hp8
  clear hvb hb3 hcells8 hp8
  go_wp2_with (fail)
  refine (viewed_calls _).mono ?_
  rintro e w4 ⟨rfl, hb4⟩
  have HB4 := Lib.hid (HB3.out.trans (hb4.mono HB3.out.size))
  have HB14 := Lib.hid (HB13.out.trans (hb4.mono HB13.out.size))
  have HB24 := Lib.hid (HB23.out.trans (hb4.mono HB23.out.size))
  have HB34 := Lib.hid hb4
  clear hb4
  by_cases h1 : seenE l acts who x = 0
  · by_cases h2 : seenE l all who x = 0
    · have HSUB : Hid ((seenR l acts who x).Sublist (seenR l all who x)) := HLAW.out h1 h2
      have HBA : Hid (∀ e ∈ seenR l acts who x, e.2.2 = []) := view_bare
      have HBB : Hid (∀ e ∈ seenR l all who x, e.2.2 = []) := view_bare
      have HFULL : Hid ((∀ j (hj : j < l.length), actsB l all who l[j] = true) → (seenR l all who x).length = x.length) := fun h => view_all h2 h
      have HCHK : Hid (has l who = true ∧ checkC l all = 0) := ⟨(seenE_zero h2).2.1, (seenE_zero h2).2.2.1⟩
      have hle := view_len (l := l) (acts := all) (who := who) (x := x)
      rw [h1, h2]
      clear h1 h2 HLAW
      generalize seenR l acts who x = A at *
      generalize seenR l all who x = B at *
      go_wp2
      go_loopw [16, 18, 56] (fun kk _ i wr => ∃ k j : Nat, k ≤ A.length ∧ j ≤ B.length ∧ i = .int .i64 j ∧ kk = .int .i64 k ∧ Below w4.heap.size w4 wr ∧ Hid ((A.drop k).Sublist (B.drop j))) (fun _ _ i _ => B.length - (intOf i).toNat)
      case atStart => exact ⟨0, 0, Nat.zero_le _, Nat.zero_le _, rfl, rfl, Below.refl _ _, HSUB⟩
      case round =>
        obtain ⟨k, j, hk, hj, rfl, rfl, hbr, HS⟩ := hrel
        have HBR := Lib.hid hbr
        clear hbr
        by_cases hlt : j < B.length
        · obtain ⟨q, d, g1, g2, g3⟩ := HC8.out j hlt
          obtain rfl := HP8.out (by omega)
          have HB3R := Lib.hid (HB34.out.trans (HBR.out.mono HB34.out.size))
          have r1 : wr.cell? ⟨b8, o8 + j * 3, none⟩ = some (.string B[j].1) := (HB3R.out.cell (cell_lt g1)).trans g1
          have r2 : wr.cell? ⟨b8, o8 + j * 3 + 1, none⟩ = some (.int .i64 B[j].2.1) := (HB3R.out.cell (cell_lt g2)).trans g2
          have r3 : wr.cell? ⟨b8, o8 + j * 3 + 2, none⟩ = some (.slice q 0 d) := (HB3R.out.cell (cell_lt g3)).trans g3
          obtain ⟨W5, eW⟩ : ∃ W5, wr.alloc (.cells #[.string B[j].1, .int .i64 B[j].2.1, .slice q 0 d] 48) = W5 := ⟨_, rfl⟩
          obtain ⟨z5, hW5, m5⟩ := boxes1 eW
          have s1 := m5 0
          have s2 := m5 1
          have s3 := m5 2
          simp only [List.getElem?_toArray, List.getElem?_cons_zero, List.getElem?_cons_succ] at s1 s2 s3
          have HB45 := Lib.hid (HBR.out.trans (hW5.mono HBR.out.size))
          have HB15 := Lib.hid (HB14.out.trans (HB45.out.mono HB14.out.size))
          clear g1 g2 g3 hW5 m5 z5
          by_cases hka : k < A.length
          · have hka' : (k : Int) < (A.length : Int) := by omega
            obtain ⟨q', d', g4, g5, g6⟩ := HC6.out k hka
            obtain rfl := HP6.out (by omega)
            obtain ⟨ext, hx1, hx2⟩ := exists_ext W5
            have t1 : ∀ y, (ext y).cell? ⟨b6, o6 + k * 3, none⟩ = some (.string A[k].1) := fun y => ((HB15.out.trans ((hx1 y).mono HB15.out.size)).cell (cell_lt g4)).trans g4
            have t2 : ∀ y, (ext y).cell? ⟨b6, o6 + k * 3 + 1, none⟩ = some (.int .i64 A[k].2.1) := fun y => ((HB15.out.trans ((hx1 y).mono HB15.out.size)).cell (cell_lt g5)).trans g5
            have t3 : ∀ y, (ext y).cell? ⟨b6, o6 + k * 3 + 2, none⟩ = some (.slice q' 0 d') := fun y => ((HB15.out.trans ((hx1 y).mono HB15.out.size)).cell (cell_lt g6)).trans g6
            have u1 : ∀ y, (ext y).cell? ⟨wr.heap.size, 0, none⟩ = some (.string B[j].1) := fun y => ((hx1 y).cell (cell_lt s1)).trans s1
            have u2 : ∀ y, (ext y).cell? ⟨wr.heap.size, 1, none⟩ = some (.int .i64 B[j].2.1) := fun y => ((hx1 y).cell (cell_lt s2)).trans s2
            have u3 : ∀ y, (ext y).cell? ⟨wr.heap.size, 2, none⟩ = some (.slice q 0 d) := fun y => ((hx1 y).cell (cell_lt s3)).trans s3
            have HJ : Hid (∀ y, Calls Try.prog 19 #[.agg #[.string A[k].1, .int .i64 A[k].2.1, .slice q' 0 d'], .agg #[.string B[j].1, .int .i64 B[j].2.1, .slice q 0 d]] (ext y) fun e w'' => e = .returned (.bool (alikeE A[k] B[j])) ∧ ∃ z, w'' = ext z) := fun y =>
              (same_calls _ _ _ _ _ _ _ _ _).mono fun e w'' ⟨h1, h2⟩ => ⟨h1, w'', hx2 _ ((hx1 y).trans (h2.mono (hx1 y).size))⟩
            have hbx : ∀ y, Below w4.heap.size w4 (ext y) := fun y => HB45.out.trans ((hx1 y).mono HB45.out.size)
            have HBX := Lib.hid hbx
            have hd := hx2 _ (Below.refl W5.heap.size W5).drew
            have HD := Lib.hid hd
            clear hx1 hx2 hd hbx g4 g5 g6
            cases hal : alikeE A[k] B[j] with
            | true =>
              have HSN := Lib.hid (sub_hit hka hlt HBA.out HBB.out HS.out hal)
              rw [hal] at HJ
              clear hal
              go_wp2
              clear r1 r2 r3 s1 s2 s3
              refine wp_region_class (fun w' => ∃ y, w' = ext y) (by kernel_rfl) (by kernel_rfl) ⟨_, HD.out⟩ ?_
              repeat go_big_quiet_step ((go_at_call 19; exact HJ.out _))
              refine wpQuiet_nil ?_
              rintro w' ⟨y, rfl⟩
              clear t1 t2 t3 u1 u2 u3
              go_wp2
              go_roundw
              case rel => exact ⟨k + 1, j + 1, by omega, by omega, by go_num, by go_num, HBX.out _, HSN.out⟩
              case measure => simp [intOf]; omega
            | false =>
              have HSN := Lib.hid (sub_miss hka hlt HS.out hal)
              rw [hal] at HJ
              clear hal
              go_wp2
              clear r1 r2 r3 s1 s2 s3
              refine wp_region_class (fun w' => ∃ y, w' = ext y) (by kernel_rfl) (by kernel_rfl) ⟨_, HD.out⟩ ?_
              repeat go_big_quiet_step ((go_at_call 19; exact HJ.out _))
              refine wpQuiet_nil ?_
              rintro w' ⟨y, rfl⟩
              clear t1 t2 t3 u1 u2 u3
              go_wp2
              go_roundw
              case rel => exact ⟨k, j + 1, by omega, by omega, by go_num, rfl, HBX.out _, HSN.out⟩
              case measure => simp [intOf]; omega
          · have hkd : decide ((k : Int) < (A.length : Int)) = false := by simp; omega
            have HSN : Hid ((A.drop k).Sublist (B.drop (j + 1))) := sub_over (by omega)
            go_wp2
            go_quiet (fail)
            go_wp2
            go_roundw
            case rel => exact ⟨k, j + 1, by omega, by omega, by go_num, rfl, below_drewN HB45.out _, HSN.out⟩
            case measure => simp [intOf]; omega
        · obtain rfl : j = B.length := by omega
          have hka : A.length ≤ k := sub_end HS.out
          have hka' : decide ((k : Int) < (A.length : Int)) = false := by simp; omega
          have hk1 : decide (k < A.length) = false := by simp; omega
          have hk2 : decide (x.length < B.length) = false := by simp; omega
          clear HS HSUB
          go_wp2
          generalize wr = wo at *
          go_loopw [20, 21, 22, 88] (fun _ _ _ i ws => ∃ m : Nat, m ≤ l.length ∧ i = .int .i64 m ∧ Below wo.heap.size wo ws ∧ Hid (∀ j (hj : j < l.length), j < m → actsB l all who l[j] = true)) (fun _ _ _ i _ => l.length - (intOf i).toNat)
          case atStart => exact ⟨0, Nat.zero_le _, rfl, Below.refl _ _, fun j _ hj => absurd hj (Nat.not_lt_zero _)⟩
          case round =>
            obtain ⟨m, hm, rfl, hbs, HM⟩ := hrel
            have HB4S := Lib.hid (HBR.out.trans (hbs.mono HBR.out.size))
            have HBS := Lib.hid hbs
            have HB0S := Lib.hid (HB4.out.trans (HB4S.out.mono HB4.out.size))
            have HB2S := Lib.hid (HB24.out.trans (HB4S.out.mono HB24.out.size))
            clear hbs
            by_cases hlm : m < l.length
            · have g1 := HC0.out m hlm
              obtain rfl := HP0.out (by omega)
              have g2 : wr.cell? ⟨b0, o0 + m, none⟩ = some (.string l[m]) := (HB0S.out.cell (cell_lt g1)).trans g1
              clear g1
              have hok := acts_ok (acts := all) HCHK.out.2 HCHK.out.1 (has_iff.2 (List.getElem_mem hlm))
              cases hab : actsB l all who l[m] with
              | true =>
                have HMN : Hid (∀ j (hj : j < l.length), j < m + 1 → actsB l all who l[j] = true) := fun j hj h => by
                  by_cases e : j = m
                  · subst e; exact hab
                  · exact HM.out j hj (by omega)
                go_wp2_with (fail)
                refine (acts_calls l all who l[m] _ _ _ (hv.stays (keeps_of_below HB0S.out)) (HZ.out.stays (keeps_of_below HB2S.out))).mono ?_
                rintro e w6 ⟨rfl, hb6⟩
                rw [hab, hok.1]
                clear hab hok
                have HB6 := Lib.hid (HBS.out.trans (hb6.mono HBS.out.size))
                clear hb6
                go_wp2
                go_roundw
                case rel => exact ⟨m + 1, by omega, by go_num, HB6.out, HMN⟩
                case measure => simp [intOf]; omega
              | false =>
                go_wp2_with (fail)
                refine (acts_calls l all who l[m] _ _ _ (hv.stays (keeps_of_below HB0S.out)) (HZ.out.stays (keeps_of_below HB2S.out))).mono ?_
                rintro e w6 ⟨rfl, hb6⟩
                rw [hab, hok.1]
                clear hab hok
                have HB6 := Lib.hid (HB0S.out.trans (hb6.mono HB0S.out.size))
                clear hb6
                go_wp2
                go_ret
                exact ⟨rfl, HB6.out⟩
            · have hfull := HFULL.out fun j hj => HM.out j hj (by omega)
              have hq : ((B.length : Int) == (x.length : Int)) = true := by rw [hfull]; simp
              clear hfull
              go_wp2
              go_ret
              exact ⟨rfl, HB0S.out⟩
    · obtain ⟨q1, q2⟩ := BAD.out _ h2
      rw [h1]
      clear h1 h2 HLAW
      generalize seenE l all who x = ec at *
      go_wp2_with (fail)
      refine (viewed_calls _).mono ?_
      rintro e w6 ⟨rfl, hb6⟩
      go_wp2
      go_ret
      exact ⟨rfl, HB4.out.trans (hb6.mono HB4.out.size)⟩
  · obtain ⟨q1, q2⟩ := BAD.out _ h1
    clear h1 HLAW
    generalize seenE l acts who x = ec at *
    go_wp2_with (fail)
    refine (viewed_calls _).mono ?_
    rintro e w6 ⟨rfl, hb6⟩
    go_wp2
    go_ret
    exact ⟨rfl, HB4.out.trans (hb6.mono HB4.out.size)⟩
end Go.Proofs.Ytcobgbkoeehdnaa
