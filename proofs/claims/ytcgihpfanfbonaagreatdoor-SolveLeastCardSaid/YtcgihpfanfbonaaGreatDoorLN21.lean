/-
  The reference's NormalOf: the program's normal form.
-/
import Derived.Test.YtcgihpfanfbonaaGreatDoorLN09
import Derived.Test.YtcgihpfanfbonaaGreatDoorLN20
namespace Go.Proofs.YtcgihpfanfbonaaGreatDoor
open Go.RowKit Go.Maps
set_option linter.unusedVariables false
set_option linter.unusedSimpArgs false

theorem okKey {p : Pol} (h6 : p.2.length ≤ 6) (h : p.1.size ≤ 12 ∧ ∀ s ∈ p.2, s.size ≤ 12) : okTxt (keyT (plainP p)) := by
  have hjl := join_len (plainR p.1 p.2) zeroT 12 (fun s hs => h.2 s (mem_plainR.1 hs).1)
  have hl : (plainR p.1 p.2).length ≤ 6 := Nat.le_trans (Nat.le_trans (plainR_le _ _) (Nat.le_trans (dedup_le _) (by rw [(srt_perm cmpT p.2).length_eq]; exact Nat.le_refl _))) h6
  have hjm : (plainR p.1 p.2).length * (12 + zeroT.size) ≤ 6 * 13 := Nat.mul_le_mul hl (by decide)
  have e : (joinT (plainR p.1 p.2) zeroT).size = (Lib.join ((plainR p.1 p.2).map (·.data.toList)) zeroT.data.toList).length := by unfold joinT bytesT; simp [ByteArray.size]
  have hz : zeroT.size = 1 := rfl
  have h1 := h.1
  show (p.1 ++ zeroT ++ joinT (plainR p.1 p.2) zeroT).size ≤ _
  rw [ByteArray.size_append, ByteArray.size_append]
  omega
set_option maxHeartbeats 16000000 in
set_option maxRecDepth 100000 in
theorem refNormal_calls (acts : List (Txt × Txt)) (x : Lab) (u t : Value) (w : World) (hu : Prs w acts u) (ht : Lbl w x t) (hn : acts.length ≤ 10) (hf : FullL x) (h6 : ∀ p ∈ x, p.2.length ≤ 6) (h12 : ∀ p ∈ x, p.1.size ≤ 12 ∧ ∀ s ∈ p.2, s.size ≤ 12) (hx : x.length ≤ 1000000) :
    Calls Tryz.prog 12 #[u, t] w fun e w' => ∃ y, e = .returned y ∧ Lbl w' (normL (actsF acts) x) y ∧ Below w.heap.size w w' := by
  have hu0 := hu
  obtain ⟨b1, o1, c1, p1, rfl, _⟩ := hu.cells
  obtain ⟨b2, o2, c2, p2, rfl, hlc2, hcm2, hp2, hcells2⟩ := ht.cells
  obtain ⟨t0, hi, hz0, hz1, hz2⟩ := info_parts Tryz.info_string
  obtain ⟨t1, hi', hz0', hz1', hz2'⟩ := info_parts Tryz.info_policy
  have HU : Hid (∀ W, Below w.heap.size w W → Prs W acts (.slice p1 acts.length c1)) := fun W h => hu0.stays (keeps_of_below h)
  have HP2 := Lib.hid hp2
  have HC2 := Lib.hid hcells2
  have HN := Lib.hid hn
  have H6 := Lib.hid h6
  have H12 := Lib.hid h12
  have HF := Lib.hid hf
  have HX := Lib.hid hx
  obtain ⟨V1, eV⟩ : ∃ V1, w.alloc (.map #[] 0) = V1 := ⟨_, rfl⟩
  obtain ⟨W0, eW⟩ : ∃ W0, (V1.alloc (.cells #[.map (some w.heap.size)] 79)).alloc (.cells #[.slice none 0 0] 22) = W0 := ⟨_, rfl⟩
  have zV : V1.heap.size = w.heap.size + 1 := by rw [← eV]; simp
  have bV : Below w.heap.size w V1 := by rw [← eV]; exact (Below.refl _ _).alloc (Nat.le_refl _) _
  have hM0 : V1.ownsMap Tryz.prog 9 heldElem w.heap.size 0 (.map [] : DataW Value) := by
    rw [← eV]; exact World.ownsMap_made (H := Value) w Tryz.prog 9 _
  obtain ⟨z0, bW, m1, m2⟩ := boxes2 eW
  rw [zV] at z0 m1 m2
  have HST0 : Hid (NSt x w.heap.size W0 (.slice none 0 0) (.map []) 0) := by
    refine ⟨owns_belowV (B := 0) hM0 bW, m1 0, m2 0, by rw [← eW]; exact World.frozen?_alloc_at _ _ _ _ (by show _ = _; simp; omega), World.ownsRow_nil _ _ _ _, Stored.start _ _, by omega⟩
  have HB0 : Hid (Below w.heap.size w W0) := bV.trans (bW.mono bV.size)
  have eW' : ((w.alloc (.map #[] 0)).alloc (.cells #[.map (some w.heap.size)] 79)).alloc (.cells #[.slice none 0 0] 22) = W0 := by rw [eV]; exact eW
  have hmm := @run_makeMap Tryz.prog
  clear hu hu0 ht hp2 hcells2 hn h6 h12 hf hx eW eV zV bV hM0 z0 bW m1 m2 V1
  go_enter Tryz.func12, Tryz.ntmps12
  go_wp2
  go_loopw [27] (fun i wr => ∃ (k : Nat) (wo : World) (kv : Value) (D : DataW Value), k ≤ x.length ∧ i = .int .i64 k ∧ wo = wr ∧ Hid (Below w.heap.size w wo) ∧ Hid (NSt x w.heap.size wo kv D k)) (fun i _ => x.length - (intOf i).toNat)
  case atStart => exact ⟨0, _, _, _, Nat.zero_le _, rfl, rfl, HB0, HST0⟩
  case round =>
    obtain ⟨k, wo, kv, D, hk, rfl, rfl, HB, HST⟩ := hrel
    by_cases hlt : k < x.length
    · obtain ⟨us, g0, g1, hus⟩ := HC2.out k hlt
      have hpk : x[k]? = some x[k] := List.getElem?_eq_getElem hlt
      have hmk : x[k] ∈ x := List.getElem_mem hlt
      generalize x[k] = pk at *
      have HPK := Lib.hid hpk
      have HMK := Lib.hid hmk
      clear hpk hmk
      have hcell1 : wo.cell? ⟨b2, o2 + k * 2, none⟩ = some (.string pk.1) := (HB.out.cell (cell_lt g0)).trans g0
      have hcell2 : wo.cell? ⟨b2, o2 + k * 2 + 1, none⟩ = some us := (HB.out.cell (cell_lt g1)).trans g1
      obtain rfl := HP2.out (by omega)
      have hus' : Strs wo pk.2 us := hus.stays (keeps_of_below HB.out)
      obtain ⟨b3, o3, c3, p3, rfl, hlc3, hcm3, hp3, hcells3⟩ := hus'.cells
      have H6K : Hid (pk.2.length ≤ 6) := H6.out _ HMK.out
      have H12K := Lib.hid (H12.out _ HMK.out)
      obtain ⟨W3, eW3⟩ : ∃ W3, ((wo.alloc (.cells #[.string pk.1, .slice p3 pk.2.length c3] 37)).alloc (.map #[] 0)).alloc (.cells #[.string pk.1, .slice none 0 0] 37) = W3 := ⟨_, rfl⟩
      have HR0 := Lib.hid (RSt.start wo rfl pk.1 pk.2 _ eW3)
      have hc1 := HR0.out.p0
      have hc2 := HR0.out.p1
      have hf0 : W3.frozen? ⟨wo.heap.size + 1 + 1, 0, none⟩ = false := by rw [← eW3]; exact World.frozen?_alloc_at _ _ _ _ (by simp)
      have hf1 := HR0.out.f1
      have hc3 := HR0.out.q0
      have hc4 := HR0.out.q1
      have HC3 := Lib.hid hcells3
      have HP3 := Lib.hid hp3
      have HLT := Lib.hid hlt
      clear hus hus' g0 g1 hcells3 hp3
      go_wp2
      go_loopw [38] (fun j ws => ∃ (m : Nat) (wi : World) (rv : Value) (E : DataW Unit), m ≤ pk.2.length ∧ j = .int .i64 m ∧ wi = ws ∧ Hid (RSt wo.heap.size pk.1 pk.2 (.slice p3 pk.2.length c3) wo wi rv E m (rdTo pk.1 pk.2 m))) (fun j _ => pk.2.length - (intOf j).toNat)
      case atStart => exact ⟨0, _, _, _, Nat.zero_le _, rfl, rfl, by rw [rdTo_zero]; exact HR0.out.again⟩
      case round =>
        clear hcell1 hcell2 hc1 hc2 hc3 hc4 hf0 hf1
        obtain ⟨m, wi, rv, E, hm, rfl, rfl, HR⟩ := hrel
        by_cases hmt : m < pk.2.length
        · have hcell3 : wi.cell? ⟨b3, o3 + m, none⟩ = some (.string pk.2[m]) := (HR.out.below.cell (cell_lt (HC3.out m hmt))).trans (HC3.out m hmt)
          obtain rfl := HP3.out (by omega)
          obtain ⟨r, hr⟩ : ∃ r, pk.2[m] = r := ⟨_, rfl⟩
          rw [hr] at hcell3
          have HRR := Lib.hid hr
          have hks : okTxt r := by rw [← hr]; have := (H12K.out).2 _ (List.getElem_mem hmt); unfold okTxt; omega
          have hM1 := HR.out.map
          obtain ⟨cn, hcn⟩ : ∃ cn, (pk.2.take m).count r = cn := ⟨_, rfl⟩
          have hcm : cn ≤ m := by rw [← hcn]; exact Nat.le_trans (List.count_le_length) (List.length_take_le _ _)
          have HCN := Lib.hid hcn
          have h6k := H6K.out
          clear hcn hr
          go_wp2_with (at_lookup; refine wpList_lookup_own_int _ rfl _ _ 80 rfl 9 3 .i64 law_str Tryz.underlying80 Tryz.underlying3 (zero_int _) (wo.heap.size + 1) _ E rfl hM1 _ _ rfl (key_str hks) ?_)
          intro cc hat _
          obtain rfl : cc = (cn : Int) := by rw [HR.out.cnt.at hat, HCN.out]
          go_wp2_with (at_mapUpdate; refine wpList_mapUpdate_own _ rfl _ _ _ 80 rfl 9 3 law_str Tryz.underlying80 _ (wo.heap.size + 1) _ _ rfl hM1 ?c1 _ _ _ rfl rfl (key_str hks) (.lit (.int .i64 ((cn : Int) + 1))) [] (plainElem_int Tryz.underlying3 ?c2) ?_)
          case c1 => unfold maxLen; omega
          case c2 => exact WalkArith.wf_i64 ⟨by omega, by omega⟩
          intro w2 hM2 hgr
          rw [← HCN.out] at hM2
          have HR2 := Lib.hid (HR.out.tick hmt HRR.out hM2 hgr)
          rw [HCN.out] at hM2
          have d0 := HR2.out.p0
          have d1 := HR2.out.q1
          have d2 := HR2.out.f1
          by_cases hc0 : cn = 0
          · subst hc0
            by_cases hro : r = pk.1
            · have hx' : (r.toList == pk.1.toList) = true := bytes_eq.2 hro
              have HNX : Hid (rdTo pk.1 pk.2 (m + 1) = rdTo pk.1 pk.2 m) := rdTo_own hmt (HRR.out.trans hro)
              clear hro
              go_wp2_with (at_lookup; refine wpList_lookup_own_int _ rfl _ _ 80 rfl 9 3 .i64 law_str Tryz.underlying80 Tryz.underlying3 (zero_int _) (wo.heap.size + 1) _ _ rfl hM2 _ _ rfl (key_str hks) ?_)
              intro c3 hat3 _
              rw [atKey_put_same hM1.isMap (by trivial)] at hat3
              obtain rfl : c3 = 1 := by simpa using hat3.symm
              clear hM1 hM2 hgr hat hat3
              go_wp2
              go_roundw
              case rel => exact ⟨m + 1, _, _, _, by omega, by go_num, rfl, by rw [HNX.out]; exact HR2⟩
              case measure => simp [intOf]; omega
            · have hx' : (r.toList == pk.1.toList) = false := text_ne hro
              have HNX : Hid (rdTo pk.1 pk.2 (m + 1) = rdTo pk.1 pk.2 m ++ [r]) := by
                have h := rdTo_hit (o := pk.1) hmt (by rw [HRR.out, HCN.out]) (by rw [HRR.out]; exact hro)
                rw [HRR.out] at h
                exact h
              clear hro
              have hown6 := HR2.out.row
              have hle := rdTo_le pk.1 pk.2 m
              go_wp2_with (at_lookup; refine wpList_lookup_own_int _ rfl _ _ 80 rfl 9 3 .i64 law_str Tryz.underlying80 Tryz.underlying3 (zero_int _) (wo.heap.size + 1) _ _ rfl hM2 _ _ rfl (key_str hks) ?_)
              intro c3 hat3 _
              rw [atKey_put_same hM1.isMap (by trivial)] at hat3
              obtain rfl : c3 = 1 := by simpa using hat3.symm
              clear hM1 hM2 hgr hat hat3
              go_wp2_with (at_builtin; refine wpList_append_own _ rfl _ _ 22 rfl (wo.heap.size + 3) 9 t0 (.string ByteArray.empty) 1 16 Tryz.underlying22 hi hz0 hz1 hz2 rfl (by decide) _ _ _ rfl (hown6.alloc _) ⟨w2.heap.size, 0, none⟩ 1 1 [.string r] rfl rfl ?c1 ?c2 ?c3 ?c4 ?c5 ?_)
              case c1 =>
                intro i u hj
                match i, hj with
                | 0, hj => simp at hj; subst hj; simp [Addr.add]; try rfl
              case c2 => intro u hu; simp at hu; subst hu; rfl
              case c3 => unfold maxLen; omega
              case c4 => omega
              case c5 => have := HR2.out.size; simp; omega
              · intro v' w7 hown' hgrow _
                obtain ⟨pv, cv, rfl⟩ := ownsRow_slice hown'
                obtain ⟨j0, j1⟩ := HR2.out.there _ hgrow
                have HR3 := Lib.hid (HR2.out.push _ hown' hgrow)
                clear hown' hgrow hown6
                go_wp2
                go_roundw
                case rel => exact ⟨m + 1, _, _, _, by omega, by go_num, rfl, by rw [HNX.out]; exact HR3⟩
                case measure => simp [intOf]; omega
          · have HNX : Hid (rdTo pk.1 pk.2 (m + 1) = rdTo pk.1 pk.2 m) := rdTo_seen hmt (by rw [HRR.out, HCN.out]; exact hc0)
            have hcz : ¬ (cn : Int) + 1 = 1 := by omega
            have hcb : (((cn : Int) + 1) == 1) = false := beq_eq_false_iff_ne.2 hcz
            go_wp2_with (at_lookup; refine wpList_lookup_own_int _ rfl _ _ 80 rfl 9 3 .i64 law_str Tryz.underlying80 Tryz.underlying3 (zero_int _) (wo.heap.size + 1) _ _ rfl hM2 _ _ rfl (key_str hks) ?_)
            intro c3 hat3 _
            rw [atKey_put_same hM1.isMap (by trivial)] at hat3
            obtain rfl : c3 = (cn : Int) + 1 := by simpa using hat3.symm
            clear hM1 hM2 hgr hat hat3
            go_wp2
            go_roundw
            case rel => exact ⟨m + 1, _, _, _, by omega, by go_num, rfl, by rw [HNX.out]; exact HR2⟩
            case measure => simp [intOf]; omega
        · obtain rfl : m = pk.2.length := by omega
          have HRD := HR
          rw [rdTo_all] at HRD
          obtain ⟨pl, hpl⟩ : ∃ pl, plainR pk.1 pk.2 = pl := ⟨_, rfl⟩
          have hle := rdTo_le pk.1 pk.2 pk.2.length
          rw [rdTo_all] at hle
          have h6k := H6K.out
          have HSC := sortRow_calls (wo.heap.size + 3) (readersF pk.1 pk.2) rv wi HRD.out.row (by omega)
          rw [readersF_plain, hpl] at HSC
          have HSC := Lib.hid HSC
          have q1 := HRD.out.q1
          have HPL := Lib.hid hpl
          clear HR hmt
          go_wp2_with (fail)
          refine HSC.out.mono ?_
          rintro e w4 ⟨rfl, hown4, hg4⟩
          have hs4 := HRD.out.size
          have hn4 : ∀ i, i < wo.heap.size + 3 → some i ≠ rv.ownBlock := fun i hi e => by have := (HRD.out.row.lt i e.symm).1; omega
          have HB4 : Hid (Below wo.heap.size wo w4) := HRD.out.below.grown hg4 (by omega) (fun q hq => by have := (HRD.out.row.lt q hq).1; omega)
          have HQ0 : Hid (w4.cell? ⟨wo.heap.size + 1 + 1, 0, none⟩ = some (.string pk.1)) := grown_cell hg4 HRD.out.q0 (hn4 _ (by omega))
          have HQ1 : Hid (w4.cell? ⟨wo.heap.size + 1 + 1, 1, none⟩ = some rv) := grown_cell hg4 HRD.out.q1 (hn4 _ (by omega))
          have HZ4 : Hid (wo.heap.size + 3 ≤ w4.heap.size) := Nat.le_trans hs4 hg4.size
          have HOW4 := Lib.hid hown4
          obtain ⟨ext, hx1, hx2⟩ := exists_ext w4
          have k0 : ∀ y, (ext y).cell? ⟨wo.heap.size + 1 + 1, 0, none⟩ = some (.string pk.1) := fun y => ((hx1 y).cell (cell_lt HQ0.out)).trans HQ0.out
          have k1 : ∀ y, (ext y).cell? ⟨wo.heap.size + 1 + 1, 1, none⟩ = some rv := fun y => ((hx1 y).cell (cell_lt HQ1.out)).trans HQ1.out
          have hpl12 : ∀ s ∈ pl, s.size ≤ 12 := fun s hs => by rw [← hpl] at hs; exact H12K.out.2 s (mem_plainR.1 hs).1
          have hplen : pl.length ≤ 6 := by
            have h1 := congrArg List.length (readersF_plain pk.1 pk.2)
            rw [hpl] at h1
            have h2 := (srt_perm cmpT (readersF pk.1 pk.2)).length_eq
            omega
          have hjl := join_len pl zeroT 12 hpl12
          have hjm : pl.length * (12 + zeroT.size) ≤ 6 * 13 := Nat.mul_le_mul hplen (by decide)
          have HJ : Hid (∀ y, Calls Tryz.prog 45 #[rv, .string zeroT] (ext y) fun e w'' => e = .returned (.string (joinT pl zeroT)) ∧ ∃ z, w'' = ext z) := fun y =>
            (join_calls pl zeroT _ (ext y) (HOW4.out.strs.stays (keeps_of_below (hx1 y))) (by omega) (by omega)).mono fun e w'' ⟨h1, h2⟩ => ⟨h1, w'', hx2 _ ((hx1 y).trans (h2.mono (hx1 y).size))⟩
          have HX1 := Lib.hid hx1
          have HD : Hid (w4.drew = ext w4.drew) := hx2 _ (Below.refl w4.heap.size w4).drew
          have hjs : (joinT pl zeroT).size ≤ 78 := by
            have e : (joinT pl zeroT).size = (Lib.join (pl.map (·.data.toList)) zeroT.data.toList).length := by unfold joinT bytesT; simp [ByteArray.size]
            omega
          have hos := H12K.out.1
          obtain ⟨key, hkey⟩ : ∃ s, pk.1 ++ zeroT ++ joinT pl zeroT = s := ⟨_, rfl⟩
          have HKEY : Hid (keyT (plainP pk) = key) := by unfold Hid keyT plainP; rw [hpl]; exact hkey
          have hks : okTxt key := by rw [← hkey]; unfold okTxt; rw [ByteArray.size_append, ByteArray.size_append]; have : zeroT.size = 1 := rfl; omega
          have hz0s : zeroT = ⟨#[0]⟩ := rfl
          rw [hz0s] at HJ hkey hjs
          clear hown4 hg4 hx1 hx2 hn4 q1 hpl HSC hjl hjm hz0s HRD
          go_wp2
          refine wp_region_mild_tail 7 (fun w' => ∃ y, w' = ext y) (by kernel_rfl) (by kernel_rfl) ⟨_, HD.out⟩ ?_
          simp only [List.take_succ_cons, List.take_zero, List.drop_succ_cons, List.drop_zero]
          repeat go_big_quiet_step ((go_at_call 45; exact HJ.out _))
          refine wpQuiet_nil ?_
          rintro w' ⟨y, rfl⟩
          have hx1y := HX1.out y
          have HBX : Hid (Below wo.heap.size wo (ext y)) := HB4.out.trans (hx1y.mono HB4.out.size)
          have HSX := Lib.hid (HST.out.below HBX.out)
          have HINJ : Hid (∀ p ∈ polTo x k, keyT p = keyT (plainP pk) → p = plainP pk) := polTo_inj HF.out HMK.out
          obtain ⟨sa, pa, na, ca, hrun⟩ := HSX.out.st.look_ok HSX.out.map (p := plainP pk) HINJ.out (by rw [HKEY.out]; exact hks)
          rw [HKEY.out] at hrun
          have x5 := HSX.out.c5
          have q0 := k0 y
          have q1 := k1 y
          obtain ⟨WA, eWA⟩ : ∃ WA, (ext y).alloc (.cells #[.string sa, .slice pa na ca] 37) = WA := ⟨_, rfl⟩
          obtain ⟨zA, bA, mA⟩ := boxes1 eWA
          have HBA : Hid (Below wo.heap.size wo WA) := HBX.out.trans (bA.mono HBX.out.size)
          have HSA := Lib.hid (HST.out.below HBA.out)
          have y5 := HSA.out.c5
          have y6 := HSA.out.c6
          have y0 : WA.cell? ⟨wo.heap.size + 1 + 1, 0, none⟩ = some (.string pk.1) := (bA.cell (cell_lt q0)).trans q0
          have y1 : WA.cell? ⟨wo.heap.size + 1 + 1, 1, none⟩ = some rv := (bA.cell (cell_lt q1)).trans q1
          have HY0 := Lib.hid y0
          have HY1 := Lib.hid y1
          have HRB : Hid (RobS (NS w.heap.size kv) WA (plainR pk.1 pk.2) rv) := by
            rw [Hid, HPL.out]
            exact (HOW4.out.robS (fun j hj => by have := HST.out.lt hj; omega)).mono (GrownS.of_below (hx1y.trans (bA.mono hx1y.size)) (fun j hj _ => hj))
          have HKS := Lib.hid hks
          have hkm : k < maxLen := by have := HX.out; have := HLT.out; unfold maxLen; omega
          clear k0 k1 mA zA
          by_cases hin : plainP pk ∈ polTo x k
          · rw [decide_eq_true hin] at hrun
            have HIN := Lib.hid hin
            have hMA := HSA.out.map
            clear hin hx1y bA q0 q1
            go_wp2_with (at_mapUpdate; refine wpList_mapUpdate_own _ rfl _ _ _ 79 rfl 9 37 law_str Tryz.underlying79 heldElem w.heap.size k D rfl hMA hkm _ _ _ rfl rfl (key_str hks) (.held (.agg #[.string pk.1, rv])) [] rfl ?_)
            intro w9 hM9 hgr9
            have HNX : Hid (NSt x w.heap.size w9 kv (D.put (keyS key) (.held (.agg #[.string pk.1, rv]))) (k + 1)) := by
              have h := HST.out.old (v := rv) HPK.out HF.out HBA.out HRB.out HIN.out (w4 := w9) (by rw [HKEY.out]; exact hM9) hgr9
              rw [HKEY.out] at h
              exact h
            have HBN : Hid (Below w.heap.size w w9) := (HB.out.trans (HBA.out.mono HB.out.size)).grown hgr9 (by have := HST.out.size; have := HBA.out.size; omega) (fun q hq => by cases hq; exact Nat.le_refl _)
            clear hM9 hgr9 hMA
            go_wp2
            go_roundw
            case rel => exact ⟨k + 1, _, _, _, by omega, by go_num, rfl, HBN.out, HNX.out⟩
            case measure => simp [intOf]; omega
          · rw [decide_eq_false hin] at hrun
            have HIN := Lib.hid hin
            have hown7 := HSA.out.row
            have hpl2 := polTo_le x k
            have hx3 := HX.out
            have hz3 := HSA.out.size
            clear hin hx1y bA q0 q1
            go_wp2_with (at_builtin; refine wpList_append_own_at _ rfl _ _ 22 rfl (w.heap.size + 3) 9 t0 (.string ByteArray.empty) 1 16 Tryz.underlying22 hi hz0 hz1 hz2 rfl (by decide) _ (polTo x k).length ((polTo x k).map fun p => Value.string (keyT p)) rfl (hown7.alloc _) ⟨WA.heap.size, 0, none⟩ 1 1 [.string key] rfl rfl ?c1 ?c2 ?c3 ?c4 ?c5 ?_)
            case c1 =>
              intro i u hj
              match i, hj with
              | 0, hj => simp at hj; subst hj; simp [Addr.add]; try rfl
            case c2 => intro u hu; simp at hu; subst hu; rfl
            case c3 => unfold maxLen; omega
            case c4 => omega
            case c5 => simp; omega
            · intro v8 w8 hown8 hg8 _ hb8
              obtain ⟨p8, c8, rfl⟩ := ownsRow_slice hown8
              have hbk : ∀ j, kv.ownBlock = some j → w.heap.size + 3 ≤ j ∧ j < WA.heap.size := HSA.out.row.lt
              have hbw : ∀ j, kv.ownBlock = some j → j < wo.heap.size := fun j hj => HST.out.lt (.inr (.inr hj))
              have hg7 : WA.grownBy w8 kv.ownBlock := grown_grown (Go.Proofs.YtcgihpfanfbonaaGreatDoor.grown_alloc WA _ kv.ownBlock) hg8
              have hszB := HST.out.size
              have v6 : w8.cell? ⟨w.heap.size + 1 + 1, 0, none⟩ = some kv := grown_cell hg7 HSA.out.c6 (fun e => by have := (hbk _ e.symm).1; omega)
              have v6f : w8.frozen? ⟨w.heap.size + 1 + 1, 0, none⟩ = false := (grown_frozen hg7 (by omega) (fun e => by have := (hbk _ e.symm).1; omega)).trans HSA.out.f6
              obtain ⟨W9, eW9⟩ : ∃ W9, w8.setCell ⟨w.heap.size + 1 + 1, 0, none⟩ (.slice p8 ((polTo x k).length + 1) c8) = W9 := ⟨_, rfl⟩
              have hg9 : w8.grownBy W9 (some (w.heap.size + 1 + 1)) := by rw [← eW9]; exact grown_setCellS _ _ _
              have u5 : W9.cell? ⟨w.heap.size + 1, 0, none⟩ = some (.map (some w.heap.size)) := grown_cell hg9 (grown_cell hg7 HSA.out.c5 (fun e => by have := (hbk _ e.symm).1; omega)) (fun e => by simp at e)
              have u0 : W9.cell? ⟨wo.heap.size + 1 + 1, 0, none⟩ = some (.string pk.1) := grown_cell hg9 (grown_cell hg7 HY0.out (fun e => by have := hbw _ e.symm; omega)) (fun e => by simp at e; omega)
              have u1 : W9.cell? ⟨wo.heap.size + 1 + 1, 1, none⟩ = some rv := grown_cell hg9 (grown_cell hg7 HY1.out (fun e => by have := hbw _ e.symm; omega)) (fun e => by simp at e; omega)
              have hM9 : W9.ownsMap Tryz.prog 9 heldElem w.heap.size k D := (HSA.out.map.kept hg7 (fun e => by have := (hbk _ e.symm).1; omega)).kept hg9 (fun e => by simp at e; omega)
              have HOW8 := Lib.hid hown8
              have HG8 := Lib.hid hg8
              have HB8 := Lib.hid hb8
              have HEW9 := Lib.hid eW9
              have HG79 : Hid (Below w.heap.size w W9) := ((HB.out.trans (HBA.out.mono HB.out.size)).grown hg7 (by have := HBA.out.size; omega) (fun q hq => by have := (hbk q hq).1; omega)).grown hg9 (by have := hg7.size; omega) (fun q hq => by cases hq; omega)
              have HSZ9 : Hid (w.heap.size ≤ W9.heap.size) := by have := hg7.size; have := hg9.size; unfold Hid; omega
              clear hown8 hg8 hb8 hg7 hg9 hbk hbw hown7
              go_wp2_with (at_mapUpdate; refine wpList_mapUpdate_own _ rfl _ _ _ 79 rfl 9 37 law_str Tryz.underlying79 heldElem w.heap.size k D rfl hM9 hkm _ _ _ rfl rfl (key_str hks) (.held (.agg #[.string pk.1, rv])) [] rfl ?_)
              intro w10 hM10 hgr10
              have HNX : Hid (NSt x w.heap.size w10 (.slice p8 ((polTo x k).length + 1) c8) (D.put (keyS key) (.held (.agg #[.string pk.1, rv]))) (k + 1)) := by
                have h := HST.out.new (v := rv) HPK.out HF.out (HBA.out.alloc HBA.out.size _) (HRB.out.mono (GrownS.of_grown (Go.Proofs.YtcgihpfanfbonaaGreatDoor.grown_alloc WA _ none) (fun j hj => by cases hj))) HIN.out (w2 := w8) (w4 := w10) (kv' := .slice p8 ((polTo x k).length + 1) c8) (by rw [HKEY.out]; exact HOW8.out) HG8.out (HB8.out.imp id fun h => by rw [h]; simp) (by rw [HKEY.out]; exact hM10) (by rw [HEW9.out]; exact hgr10)
                rw [HKEY.out] at h
                exact h
              have HBN : Hid (Below w.heap.size w w10) := HG79.out.grown hgr10 HSZ9.out (fun q hq => by cases hq; exact Nat.le_refl _)
              clear hM9 hM10 hgr10
              go_wp2
              go_roundw
              case rel => exact ⟨k + 1, _, _, _, by omega, by go_num, rfl, HBN.out, HNX.out⟩
              case measure => simp [intOf]; omega
    · obtain rfl : k = x.length := by omega
      have HKS : Hid (∀ p ∈ polTo x x.length, okTxt (keyT p)) := fun p hp => by
        obtain ⟨y, hy, rfl⟩ := mem_polTo hp
        exact okKey (H6.out y hy) (H12.out y hy)
      have HSK := Lib.hid (sortKeys_calls x w.heap.size wo kv D HST.out HKS.out HX.out)
      have hc6 := HST.out.c6
      have HB3 := HST.out.size
      clear hk hlt
      go_wp2_with (fail)
      refine HSK.out.mono ?_
      rintro e w3 ⟨rfl, hE, hb3⟩
      have HBW3 : Hid (Below w.heap.size w w3) := HB.out.trans (hb3.mono (by omega))
      obtain ⟨X, hX⟩ : ∃ X, allOf x = X := ⟨_, rfl⟩
      have hE' := hE.keys
      rw [hX] at hE'
      obtain ⟨b4, o4, c4, p4, rfl, hlc4, hcm4, hp4, hcells4⟩ := hE'.cells
      rw [List.length_map] at hlc4 hp4
      have HED := Lib.hid hE
      have HRI : Hid (Rising cmpPol X) := by unfold Hid; rw [← hX]; exact allOf_rising x
      have HIN : Hid (∀ p ∈ X, p ∈ polTo x x.length) := fun p hp => by
        rw [← hX, mem_allOf] at hp
        rw [polTo_all, mem_firsts, List.mem_map]
        exact hp
      have HX6 : Hid (∀ p ∈ X, p.2.length ≤ 6) := fun p hp => by
        rw [← hX, mem_allOf] at hp
        obtain ⟨y, hy, rfl⟩ := hp
        exact Nat.le_trans (Nat.le_trans (plainR_le _ _) (Nat.le_trans (dedup_le _) (by rw [(srt_perm cmpT y.2).length_eq]; exact Nat.le_refl _))) (H6.out y hy)
      have hxl : X.length ≤ 1000000 := by rw [← hX]; have := allOf_le x; have := HX.out; omega
      have HNF : Hid (outTo (actsF acts) X X.length = normL (actsF acts) x) := by unfold Hid; rw [← hX]; exact outTo_all (actsF acts) x
      have HCE : Hid (∀ (i : Nat) (h : i < X.length), w3.cell? ⟨b4, o4 + i, none⟩ = some (.string (keyT X[i]))) := fun i h => by
        have := hcells4 i (by rw [List.length_map]; exact h)
        rw [this, List.getElem_map]
      have HP4 := Lib.hid hp4
      have hc6 := hE.c6
      rw [List.length_map] at hc6
      clear hE hb3 hX hE' hp4 hcells4 HSK HST HB
      go_wp2
      go_loopw [16, 95] (fun y i ws => ∃ (k : Nat) (yv : Value) (wo : World), k ≤ X.length ∧ i = .int .i64 k ∧ yv = y ∧ wo = ws ∧ Hid (Below w3.heap.size w3 wo) ∧ ∃ xs, Hid (wo.ownsRow w3.heap.size 37 2 yv (outTo (actsF acts) X k).length xs) ∧ Hid (Rows pol 2 w3 (outTo (actsF acts) X k) xs)) (fun _ i _ => X.length - (intOf i).toNat)
      case atStart => exact ⟨0, _, _, Nat.zero_le _, rfl, rfl, rfl, Below.refl _ _, [], World.ownsRow_nil _ _ _ _, rfl⟩
      case round =>
        clear hc6
        obtain ⟨k, yv, wq, hk, rfl, rfl, rfl, HBR, xs, HOWN, HROW⟩ := hrel
        have HEQ := Lib.hid (HED.out.below HBR.out)
        by_cases hlt : k < X.length
        · have g0 := HCE.out k hlt
          have g0' : wq.cell? ⟨b4, o4 + k, none⟩ = some (.string (keyT X[k])) := (HBR.out.cell (cell_lt g0)).trans g0
          obtain rfl := HP4.out (by omega)
          have h5 := HEQ.out.c5
          have h6 := HEQ.out.c6
          rw [List.length_map] at h6
          obtain ⟨pu, nu, cu, hsu, hlu⟩ := HED.out.look (HIN.out _ (List.getElem_mem hlt)) (HKS.out _ (HIN.out _ (List.getElem_mem hlt)))
          obtain ⟨_, _, _, _, e0, _⟩ := hsu.cells
          simp only [Value.slice.injEq] at e0
          obtain ⟨rfl, rfl, rfl⟩ := e0
          have hl1 := hlu wq HBR.out
          have HUK := Lib.hid hsu
          obtain ⟨W5, eW5⟩ : ∃ W5, wq.alloc (.cells #[.string X[k].1, .slice pu X[k].2.length cu] 37) = W5 := ⟨_, rfl⟩
          obtain ⟨z5, hW5, m5⟩ := boxes1 eW5
          have h50 := m5 0
          have h51 := m5 1
          simp only [List.getElem?_toArray, List.getElem?_cons_zero, List.getElem?_cons_succ] at h50 h51
          have HB5 : Hid (Below w3.heap.size w3 W5) := HBR.out.trans (hW5.mono HBR.out.size)
          have HW5 := Lib.hid hW5
          have HZ5 := Lib.hid z5
          have H50 := Lib.hid h50
          have H51 := Lib.hid h51
          have H6K : Hid (X[k].2.length ≤ 6) := HX6.out _ (List.getElem_mem hlt)
          have h6W := (HED.out.below HB5.out).c6
          rw [List.length_map] at h6W
          clear m5 hW5 z5 hsu hlu g0 h50 h51
          go_wp2
          go_loopw [20, 105] (fun g j ws => ∃ (m : Nat) (wr2 : World), m ≤ X.length ∧ j = .int .i64 m ∧ g = .bool (!goneTo (actsF acts) X k m) ∧ wr2 = ws ∧ Hid (Below W5.heap.size W5 wr2)) (fun _ j _ => X.length - (intOf j).toNat)
          case atStart => exact ⟨0, _, Nat.zero_le _, rfl, rfl, rfl, Below.refl _ _⟩
          case round =>
            clear g0' hl1 h5 h6 h6W
            obtain ⟨m, wr2, hm, rfl, rfl, rfl, HBI⟩ := hrel
            by_cases hmt : m < X.length
            · have hb3 : Below w3.heap.size w3 wr2 := HB5.out.trans (HBI.out.mono HB5.out.size)
              have e0' : wr2.cell? ⟨b4, o4 + m, none⟩ = some (.string (keyT X[m])) := (hb3.cell (cell_lt (HCE.out m hmt))).trans (HCE.out m hmt)
              have e5 := (HED.out.below hb3).c5
              obtain ⟨pm, nm, cm, hsm, hlm⟩ := HED.out.look (HIN.out _ (List.getElem_mem hmt)) (HKS.out _ (HIN.out _ (List.getElem_mem hmt)))
              obtain ⟨_, _, _, _, e0, _⟩ := hsm.cells
              simp only [Value.slice.injEq] at e0
              obtain ⟨rfl, rfl, rfl⟩ := e0
              have hl2 := hlm wr2 hb3
              obtain ⟨W6, eW6⟩ : ∃ W6, wr2.alloc (.cells #[.string X[m].1, .slice pm X[m].2.length cm] 37) = W6 := ⟨_, rfl⟩
              obtain ⟨z6, hW6, m6⟩ := boxes1 eW6
              have h60 := m6 0
              have h61 := m6 1
              simp only [List.getElem?_toArray, List.getElem?_cons_zero, List.getElem?_cons_succ] at h60 h61
              have hb56 : Below W5.heap.size W5 W6 := HBI.out.trans (hW6.mono HBI.out.size)
              have hb36 : Below w3.heap.size w3 W6 := HB5.out.trans (hb56.mono HB5.out.size)
              have H6M : Hid (X[m].2.length ≤ 6) := HX6.out _ (List.getElem_mem hmt)
              have HCELL : Hid (∀ W, Below W6.heap.size W6 W → W.cell? ⟨wq.heap.size, 0, none⟩ = some (.string X[k].1) ∧ W.cell? ⟨wq.heap.size, 1, none⟩ = some (.slice pu X[k].2.length cu) ∧
                  W.cell? ⟨wr2.heap.size, 0, none⟩ = some (.string X[m].1) ∧ W.cell? ⟨wr2.heap.size, 1, none⟩ = some (.slice pm X[m].2.length cm)) := fun W hb => by
                have hbB : Below W5.heap.size W5 W := hb56.trans (hb.mono hb56.size)
                have z5 := HZ5.out
                exact ⟨(hbB.cell (p := ⟨wq.heap.size, 0, none⟩) (by simp only; omega)).trans H50.out, (hbB.cell (p := ⟨wq.heap.size, 1, none⟩) (by simp only; omega)).trans H51.out,
                  (hb.cell (p := ⟨wr2.heap.size, 0, none⟩) (by simp only; omega)).trans h60, (hb.cell (p := ⟨wr2.heap.size, 1, none⟩) (by simp only; omega)).trans h61⟩
              have HCV1 : Hid (Calls Tryz.prog 49 #[.slice p1 acts.length c1, .agg #[.string X[m].1, .slice pm X[m].2.length cm], .agg #[.string X[k].1, .slice pu X[k].2.length cu]] W6 fun e w' => e = .returned (.bool (coversB (actsF acts) X[m] X[k])) ∧ Below W6.heap.size W6 w') :=
                refCovers_calls acts X[m] X[k] _ _ _ W6 (HU.out W6 (HBW3.out.trans (hb36.mono HBW3.out.size))) (hsm.stays (keeps_of_below hb36)) (HUK.out.stays (keeps_of_below hb36)) HN.out H6K.out
              have HCV2 : Hid (∀ W, Below W6.heap.size W6 W → Calls Tryz.prog 49 #[.slice p1 acts.length c1, .agg #[.string X[k].1, .slice pu X[k].2.length cu], .agg #[.string X[m].1, .slice pm X[m].2.length cm]] W fun e w' => e = .returned (.bool (coversB (actsF acts) X[k] X[m])) ∧ Below W.heap.size W w') := fun W hb =>
                refCovers_calls acts X[k] X[m] _ _ _ W (HU.out W (HBW3.out.trans ((hb36.trans (hb.mono hb36.size)).mono HBW3.out.size))) (HUK.out.stays (keeps_of_below (hb36.trans (hb.mono hb36.size)))) (hsm.stays (keeps_of_below (hb36.trans (hb.mono hb36.size)))) HN.out H6M.out
              have hkill : goneTo (actsF acts) X k (m + 1) = (goneTo (actsF acts) X k m || (decide (k ≠ m) && (coversB (actsF acts) X[m] X[k] && (decide (m < k) || !coversB (actsF acts) X[k] X[m])))) := by
                rw [goneTo_succ, killAt_eq (actsF acts) hlt hmt]
              have HKILL := Lib.hid hkill
              have HB6 := Lib.hid hb56
              obtain ⟨f2, f3, f4, f5⟩ := HCELL.out W6 (Below.refl _ _)
              clear m6 hW6 z6 hsm hlm hb3 hb56 hb36 hkill h60 h61
              by_cases hkm : k = m
              · have HX : Hid (Value.bool (!goneTo (actsF acts) X k m) = .bool (!goneTo (actsF acts) X k (m + 1))) := by unfold Hid; rw [HKILL.out]; simp [hkm]
                have q1 : ((m : Int) == (k : Int)) = true := by simp [hkm]
                clear HKILL HCV1 HCV2 HCELL hkm
                go_wp2
                go_roundw
                case rel => exact ⟨m + 1, _, by omega, by go_num, HX.out, rfl, HB6.out⟩
                case measure => simp [intOf]; omega
              · have q1 : ((m : Int) == (k : Int)) = false := beq_eq_false_iff_ne.2 (by omega)
                cases hc1 : coversB (actsF acts) X[m] X[k] with
                | false =>
                  have HX : Hid (Value.bool (!goneTo (actsF acts) X k m) = .bool (!goneTo (actsF acts) X k (m + 1))) := by unfold Hid; rw [HKILL.out, hc1]; simp
                  rw [hc1] at HCV1
                  clear HKILL HCV2 HCELL hkm hc1
                  go_wp2_with (fail)
                  refine HCV1.out.mono ?_
                  rintro e w7 ⟨rfl, hb7⟩
                  have HB7 := Lib.hid (HB6.out.trans (hb7.mono HB6.out.size))
                  go_wp2
                  go_roundw
                  case rel => exact ⟨m + 1, _, by omega, by go_num, HX.out, rfl, HB7.out⟩
                  case measure => simp [intOf]; omega
                | true =>
                  rw [hc1] at HCV1
                  go_wp2_with (fail)
                  refine HCV1.out.mono ?_
                  rintro e w7 ⟨rfl, hb7⟩
                  have HB7 := Lib.hid (HB6.out.trans (hb7.mono HB6.out.size))
                  have HCC := HCV2.out w7 hb7
                  clear f2 f3 f4 f5
                  obtain ⟨f2, f3, f4, f5⟩ := HCELL.out w7 hb7
                  clear hb7 HCV1 HCV2 HCELL
                  cases hc2 : coversB (actsF acts) X[k] X[m] with
                  | false =>
                    rw [hc2] at HCC
                    have HX : Hid (Value.bool false = .bool (!goneTo (actsF acts) X k (m + 1))) := by unfold Hid; rw [HKILL.out, hc1, hc2]; simp [hkm]
                    have HCC := Lib.hid HCC
                    clear HKILL hkm hc1 hc2
                    go_wp2_with (fail)
                    refine HCC.out.mono ?_
                    rintro e w8 ⟨rfl, hb8⟩
                    have HB8 := Lib.hid (HB7.out.trans (hb8.mono HB7.out.size))
                    go_wp2
                    go_roundw
                    case rel => exact ⟨m + 1, _, by omega, by go_num, HX.out, rfl, HB8.out⟩
                    case measure => simp [intOf]; omega
                  | true =>
                    rw [hc2] at HCC
                    have HCC := Lib.hid HCC
                    by_cases hmk : m < k
                    · have HX : Hid (Value.bool false = .bool (!goneTo (actsF acts) X k (m + 1))) := by unfold Hid; rw [HKILL.out, hc1, hc2]; simp [hkm, hmk]
                      have q3 : (m : Int) < (k : Int) := by omega
                      clear HKILL hkm hc1 hc2
                      go_wp2_with (fail)
                      refine HCC.out.mono ?_
                      rintro e w8 ⟨rfl, hb8⟩
                      have HB8 := Lib.hid (HB7.out.trans (hb8.mono HB7.out.size))
                      go_wp2
                      go_roundw
                      case rel => exact ⟨m + 1, _, by omega, by go_num, HX.out, rfl, HB8.out⟩
                      case measure => simp [intOf]; omega
                    · have HX : Hid (Value.bool (!goneTo (actsF acts) X k m) = .bool (!goneTo (actsF acts) X k (m + 1))) := by unfold Hid; rw [HKILL.out, hc1, hc2]; simp [hkm, hmk]
                      have q3 : ¬ (m : Int) < (k : Int) := by omega
                      clear HKILL hkm hc1 hc2
                      go_wp2_with (fail)
                      refine HCC.out.mono ?_
                      rintro e w8 ⟨rfl, hb8⟩
                      have HB8 := Lib.hid (HB7.out.trans (hb8.mono HB7.out.size))
                      go_wp2
                      go_roundw
                      case rel => exact ⟨m + 1, _, by omega, by go_num, HX.out, rfl, HB8.out⟩
                      case measure => simp [intOf]; omega
            · obtain rfl : m = X.length := by omega
              have hg0 := goneTo_all (actsF acts) HRI.out hlt
              have hb3 : Below w3.heap.size w3 wr2 := HB5.out.trans (HBI.out.mono HB5.out.size)
              have hbr2 : Below wq.heap.size wq wr2 := HW5.out.trans (HBI.out.mono HW5.out.size)
              have hOW := own_below HOWN.out hbr2
              have f2 : wr2.cell? ⟨wq.heap.size, 0, none⟩ = some (.string X[k].1) := (HBI.out.cell (p := ⟨wq.heap.size, 0, none⟩) (by have := HZ5.out; simp only; omega)).trans H50.out
              have f3 : wr2.cell? ⟨wq.heap.size, 1, none⟩ = some (.slice pu X[k].2.length cu) := (HBI.out.cell (p := ⟨wq.heap.size, 1, none⟩) (by have := HZ5.out; simp only; omega)).trans H51.out
              have HB32 := Lib.hid hb3
              have hle := outTo_le (actsF acts) X k
              have hbs := hb3.size
              cases hg : goneB (actsF acts) X X[k] with
              | true =>
                have HX : Hid (outTo (actsF acts) X (k + 1) = outTo (actsF acts) X k) := outTo_miss hlt hg
                have HO := Lib.hid hOW
                rw [hg0, hg]
                clear hg0 hg hOW hb3 hbr2 hmt
                go_wp2
                go_roundw
                case rel =>
                  refine ⟨k + 1, _, _, by omega, by go_num, rfl, rfl, HB32, xs, ?_, ?_⟩
                  · rw [HX.out]; exact HO
                  · rw [HX.out]; exact HROW
                case measure => simp [intOf]; omega
              | false =>
                have HX : Hid (outTo (actsF acts) X (k + 1) = outTo (actsF acts) X k ++ [X[k]]) := outTo_hit hlt hg
                rw [hg0, hg]
                clear hg0 hg hb3 hbr2 hmt
                go_wp2_with (at_builtin; refine wpList_append_own _ rfl _ _ 25 rfl w3.heap.size 37 t1 (.agg #[.string ByteArray.empty, .slice none 0 0]) 2 40 Tryz.underlying25 hi' hz0' hz1' hz2' rfl (by decide) _ (outTo (actsF acts) X k).length xs rfl (hOW.alloc _) ⟨wr2.heap.size, 0, none⟩ 1 1 [.string X[k].1, .slice pu X[k].2.length cu] rfl rfl ?c1 ?c2 ?c3 ?c4 ?c5 ?_)
                case c1 =>
                  intro j u hj
                  match j, hj with
                  | 0, hj => simp at hj; subst hj; simp [Addr.add]
                  | 1, hj => simp at hj; subst hj; simp [Addr.add]
                case c2 => intro u hu; simp at hu; rcases hu with rfl | rfl <;> rfl
                case c3 => unfold maxLen; omega
                case c4 => omega
                case c5 => simp; omega
                · intro v6 w6 hown6 hg6 _
                  have HO : Hid (w6.ownsRow w3.heap.size 37 2 v6 (outTo (actsF acts) X (k + 1)).length (xs ++ [.string X[k].1, .slice pu X[k].2.length cu])) := by
                    unfold Hid
                    rw [HX.out]
                    simpa using hown6
                  have HRN : Hid (Rows pol 2 w3 (outTo (actsF acts) X (k + 1)) (xs ++ [.string X[k].1, .slice pu X[k].2.length cu])) := by
                    unfold Hid
                    rw [HX.out]
                    exact HROW.out.append (.one ⟨[.string X[k].1], [.slice pu X[k].2.length cu], rfl, rfl, ⟨_, rfl, HUK.out⟩⟩ rfl)
                  have HBN : Hid (Below w3.heap.size w3 w6) := (HB32.out.alloc HB32.out.size _).grown hg6 (by have := HB32.out.size; simp; omega) (fun q hq => (HOWN.out.lt q hq).1)
                  clear hown6 hg6
                  go_wp2
                  go_roundw
                  case rel => exact ⟨k + 1, _, _, by omega, by go_num, rfl, rfl, HBN, _, HO, HRN⟩
                  case measure => simp [intOf]; omega
        · obtain rfl : k = X.length := by omega
          have hfin : Lbl wq (outTo (actsF acts) X X.length) yv := SliceOf.of_rows HOWN.out (Rows.stays pol_stays (keeps_of_below HBR.out) HROW.out)
          rw [HNF.out] at hfin
          have HFI := Lib.hid hfin
          have HBW : Hid (Below w.heap.size w wq) := HBW3.out.trans (HBR.out.mono HBW3.out.size)
          clear hfin HOWN HROW
          go_wp2
          go_ret
          exact ⟨_, rfl, HFI.out, HBW.out⟩
end Go.Proofs.YtcgihpfanfbonaaGreatDoor
