/-
  view.Alike: are inputs the same in all channels of which somebody may read what comes?
-/
import Derived.Test.YtfbieagkhbmgjaaDoorProgA
import Derived.Test.YtfbieagkhbmgjaaDoorView
import Derived.Test.YtfbieagkhbmgjaaDoorEqI
import Derived.BigQuiet
import Derived.Deep.QuietTactic
namespace Go.Proofs.YtfbieagkhbmgjaaDoor
open Go.RowKit Go.Maps
set_option linter.unusedVariables false
set_option linter.unusedSimpArgs false

/-- Does the look stop at a channel: an error, or inputs that somebody sees and that are not the same? -/
def stopA (l : List Txt) (acts : List (Txt × Txt)) (who : Txt) (ch : List Chn) (a b : List (List Int)) (i : Nat) : Bool :=
  let c := ch.getD i (0, ByteArray.empty, false, 0, [])
  seesE l acts who c.2.2.2.2 != 0 || (seesB l acts who c.2.2.2.2 && a.getD i [] != b.getD i [])
def firstA (l : List Txt) (acts : List (Txt × Txt)) (who : Txt) (ch : List Chn) (a b : List (List Int)) : Option Nat := (List.range ch.length).find? (stopA l acts who ch a b)
def badA (ch : List Chn) (a b : List (List Int)) : Bool := a.length != ch.length || b.length != ch.length || decide (6 < a.length)
def alikeE2 (l : List Txt) (acts : List (Txt × Txt)) (who : Txt) (ch : List Chn) (a b : List (List Int)) : Int :=
  if badA ch a b then 4 else (firstA l acts who ch a b).elim 0 fun i => seesE l acts who (ch.getD i (0, ByteArray.empty, false, 0, [])).2.2.2.2
def alikeB2 (l : List Txt) (acts : List (Txt × Txt)) (who : Txt) (ch : List Chn) (a b : List (List Int)) : Bool := !badA ch a b && (firstA l acts who ch a b).isNone
section
variable {l : List Txt} {acts : List (Txt × Txt)} {who : Txt} {ch : List Chn} {a b : List (List Int)}
theorem chnD {k : Nat} (h : k < ch.length) : ch.getD k (0, ByteArray.empty, false, 0, []) = ch[k] := by simp [List.getD, h]
theorem rowD {a : List (List Int)} {k : Nat} (h : k < a.length) : a.getD k [] = a[k] := by simp [List.getD, h]
theorem alike_bad (h : badA ch a b = true) : alikeE2 l acts who ch a b = 4 ∧ alikeB2 l acts who ch a b = false := by
  unfold alikeE2 alikeB2; rw [h]; exact ⟨rfl, rfl⟩
theorem first_at {k : Nat} (hk : k < ch.length) (h : stopA l acts who ch a b k = true) (hne : ∀ j, j < k → stopA l acts who ch a b j = false) : firstA l acts who ch a b = some k := by
  unfold firstA
  rw [List.find?_range_eq_some]
  exact ⟨h, List.mem_range.2 hk, fun j hj => by rw [hne j hj]; rfl⟩
theorem first_none (hne : ∀ j, j < ch.length → stopA l acts who ch a b j = false) : firstA l acts who ch a b = none := by
  unfold firstA
  rw [List.find?_eq_none]
  intro j hj
  rw [hne j (List.mem_range.1 hj)]
  simp
theorem alike_err (h0 : badA ch a b = false) {k : Nat} (hk : k < ch.length) (h : seesE l acts who ch[k].2.2.2.2 ≠ 0) (hne : ∀ j, j < k → stopA l acts who ch a b j = false) : alikeE2 l acts who ch a b = seesE l acts who ch[k].2.2.2.2 ∧ alikeB2 l acts who ch a b = false := by
  have hs : stopA l acts who ch a b k = true := by
    unfold stopA
    simp only [chnD hk]
    rw [show (seesE l acts who ch[k].2.2.2.2 != 0) = true by simpa using h]
    rfl
  unfold alikeE2 alikeB2
  rw [h0, first_at hk hs hne]
  exact ⟨by simp only [Option.elim, chnD hk]; rfl, rfl⟩
theorem alike_ne (h0 : badA ch a b = false) {k : Nat} (hk : k < ch.length) (ha : k < a.length) (hb : k < b.length) (he : seesE l acts who ch[k].2.2.2.2 = 0) (hs : seesB l acts who ch[k].2.2.2.2 = true) (hq : (a[k] == b[k]) = false) (hne : ∀ j, j < k → stopA l acts who ch a b j = false) : alikeE2 l acts who ch a b = 0 ∧ alikeB2 l acts who ch a b = false := by
  have hs : stopA l acts who ch a b k = true := by
    unfold stopA
    simp only [chnD hk, rowD ha, rowD hb]
    rw [hs, show (a[k] != b[k]) = true by rw [bne, hq]; rfl]
    simp
  unfold alikeE2 alikeB2
  rw [h0, first_at hk hs hne]
  exact ⟨by simp only [Option.elim, chnD hk]; exact he, rfl⟩
theorem alike_on {k : Nat} (hk : k < ch.length) (ha : k < a.length) (hb : k < b.length) (he : seesE l acts who ch[k].2.2.2.2 = 0) (hs : seesB l acts who ch[k].2.2.2.2 = false ∨ (a[k] == b[k]) = true) : stopA l acts who ch a b k = false := by
  unfold stopA
  simp only [chnD hk, rowD ha, rowD hb]
  rw [he]
  rcases hs with h | h
  · rw [h]; rfl
  · rw [show (a[k] != b[k]) = false by rw [bne, h]; rfl]; simp
theorem alike_yes (h0 : badA ch a b = false) (hne : ∀ j, j < ch.length → stopA l acts who ch a b j = false) : alikeE2 l acts who ch a b = 0 ∧ alikeB2 l acts who ch a b = true := by
  unfold alikeE2 alikeB2
  rw [h0, first_none hne]
  exact ⟨rfl, rfl⟩
end

set_option maxHeartbeats 2000000 in
set_option maxRecDepth 100000 in
theorem alike_calls (l : List Txt) (acts : List (Txt × Txt)) (who : Txt) (ch : List Chn) (a b : List (List Int)) (v1 v2 v3 va vb : Value) (p4 : Option Addr) (n4 c4 : Nat) (w : World) (hv : Strs w l v1) (hu : Prs w acts v2) (hc : Chns w ch v3) (ha : NumsL w a va) (hb : NumsL w b vb) (hl : okList okTxt l) (hco : okList okChn ch) :
    Calls Tryd.prog 31 #[.agg #[v1, v2, v3, .slice p4 n4 c4], .string who, va, vb] w fun e w' => e = .returned (.tuple #[.bool (alikeB2 l acts who ch a b), .int .i64 (alikeE2 l acts who ch a b)]) ∧ Below w.heap.size w w' := by
  have hv0 := hv
  have hu0 := hu
  obtain ⟨b0, o0, c0, p0, rfl, _⟩ := hv.cells
  obtain ⟨b1, o1, c1, p1, rfl, _⟩ := hu.cells
  obtain ⟨b2, o2, c2, p2, rfl, hlc2, hcm2, hp2, hcells2⟩ := hc.cells
  obtain ⟨b3, o3, c3, p3, rfl, hlc3, hcm3, hp3, hcells3⟩ := ha.cells
  obtain ⟨b5, o5, c5, p5, rfl, hlc5, hcm5, hp5, hcells5⟩ := hb.cells
  have HV : Hid (∀ W, Below w.heap.size w W → Strs W l (.slice p0 l.length c0)) := fun W h => hv0.stays (keeps_of_below h)
  have HU : Hid (∀ W, Below w.heap.size w W → Prs W acts (.slice p1 acts.length c1)) := fun W h => hu0.stays (keeps_of_below h)
  have HP2 := Lib.hid hp2
  have HP3 := Lib.hid hp3
  have HP5 := Lib.hid hp5
  have HC2 := Lib.hid hcells2
  have HC3 := Lib.hid hcells3
  have HC5 := Lib.hid hcells5
  have HSE : Hid (∀ W x vx, Below w.heap.size w W → okLab x → Lbl W x vx → Calls Tryd.prog 30 #[.slice p0 l.length c0, .slice p1 acts.length c1, .string who, vx] W fun e w' => e = .returned (.tuple #[.bool (seesB l acts who x), .int .i64 (seesE l acts who x)]) ∧ Below W.heap.size W w') := fun W x vx h hx hvx =>
    sees_calls l acts who x _ _ _ W (HV.out W h) (HU.out W h) hvx hl hx
  have HCO := Lib.hid hco
  obtain ⟨W0, eW⟩ : ∃ W0, w.alloc (.cells #[.slice p0 l.length c0, .slice p1 acts.length c1, .slice p2 ch.length c2, .slice p4 n4 c4] 61) = W0 := ⟨_, rfl⟩
  obtain ⟨z0, hW0, m0⟩ := boxes1 eW
  have j0 := m0 0
  have j1 := m0 1
  have j2 := m0 2
  simp only [List.getElem?_toArray, List.getElem?_cons_zero, List.getElem?_cons_succ] at j0 j1 j2
  have HW0 := Lib.hid hW0
  have HJ0 := Lib.hid j0
  have HJ1 := Lib.hid j1
  clear hv hu hc ha hb hv0 hu0 hp2 hp3 hp5 hcells2 hcells3 hcells5 hl hco m0 hW0 z0
  by_cases h1 : a.length = ch.length
  · have t1 : ((a.length : Int) != (ch.length : Int)) = false := by simp [h1]
    by_cases h2 : b.length = ch.length
    · have t2 : ((b.length : Int) != (ch.length : Int)) = false := by simp [h2]
      by_cases h3 : 6 < a.length
      · have t3 : 6 < (a.length : Int) := by omega
        have HX := Lib.hid (alike_bad (l := l) (acts := acts) (who := who) (ch := ch) (a := a) (b := b) (by unfold badA; simp [h3]))
        clear h1 h2
        go_enter Tryd.func31, Tryd.ntmps31
        go_wp2
        go_ret2
        exact ⟨by rw [HX.out.1, HX.out.2]; rfl, HW0.out⟩
      · have t3 : ¬ 6 < (a.length : Int) := by omega
        have HBD : Hid (badA ch a b = false) := by unfold Hid badA; simp [h1, h2]; omega
        have H1 := Lib.hid h1
        have H2 := Lib.hid h2
        clear h1 h2 j0 j1
        go_enter Tryd.func31, Tryd.ntmps31
        go_wp2
        go_loopw [36] (fun i ws => ∃ (k : Nat) (wo : World), k ≤ ch.length ∧ i = .int .i64 k ∧ wo = ws ∧ Hid (Below W0.heap.size W0 wo) ∧ Hid (∀ j, j < k → stopA l acts who ch a b j = false)) (fun i _ => ch.length - (intOf i).toNat)
        case atStart => exact ⟨0, _, Nat.zero_le _, rfl, rfl, by unfold Hid; subst eW; exact Below.refl _ _, fun j hj => absurd hj (Nat.not_lt_zero _)⟩
        case round =>
          clear j2 eW t1 t2 t3
          obtain ⟨k, wo, hk, rfl, rfl, HB, HN⟩ := hrel
          have HBW : Hid (Below w.heap.size w wo) := HW0.out.trans (HB.out.mono HW0.out.size)
          by_cases hlt : k < ch.length
          · obtain ⟨ul, g1, g2, g3, g4, g5, hul⟩ := HC2.out k hlt
            obtain ⟨_, _, kl, pl, rfl, _⟩ := hul.cells
            have hcell1 : wo.cell? ⟨b2, o2 + k * 5, none⟩ = some (.int .i64 ch[k].1) := (HBW.out.cell (cell_lt g1)).trans g1
            have hcell2 : wo.cell? ⟨b2, o2 + k * 5 + 1, none⟩ = some (.string ch[k].2.1) := (HBW.out.cell (cell_lt g2)).trans g2
            have hcell3 : wo.cell? ⟨b2, o2 + k * 5 + 2, none⟩ = some (.bool ch[k].2.2.1) := (HBW.out.cell (cell_lt g3)).trans g3
            have hcell4 : wo.cell? ⟨b2, o2 + k * 5 + 3, none⟩ = some (.int .i64 ch[k].2.2.2.1) := (HBW.out.cell (cell_lt g4)).trans g4
            have hcell5 : wo.cell? ⟨b2, o2 + k * 5 + 4, none⟩ = some (.slice pl ch[k].2.2.2.2.length kl) := (HBW.out.cell (cell_lt g5)).trans g5
            obtain rfl := HP2.out (by omega)
            have hka : k < a.length := by have := H1.out; omega
            have hkb : k < b.length := by have := H2.out; omega
            obtain ⟨ua, f1, hua⟩ := HC3.out k hka
            obtain ⟨ub, f2, hub⟩ := HC5.out k hkb
            obtain rfl := HP3.out (by omega)
            obtain rfl := HP5.out (by omega)
            obtain ⟨_, _, ka, pa, rfl, _⟩ := One.cells hua
            obtain ⟨_, _, kb, pb, rfl, _⟩ := One.cells hub
            obtain ⟨W1, eW1⟩ : ∃ W1, wo.alloc (.cells #[.int .i64 ch[k].1, .string ch[k].2.1, .bool ch[k].2.2.1, .int .i64 ch[k].2.2.2.1, .slice pl ch[k].2.2.2.2.length kl] 68) = W1 := ⟨_, rfl⟩
            obtain ⟨z1, hW1, m1⟩ := boxes1 eW1
            have r5 := m1 4
            simp only [List.getElem?_toArray, List.getElem?_cons_zero, List.getElem?_cons_succ] at r5
            have HB1 : Hid (Below W0.heap.size W0 W1) := HB.out.trans (hW1.mono HB.out.size)
            have HBW1 : Hid (Below w.heap.size w W1) := HBW.out.trans (hW1.mono HBW.out.size)
            have r0 : W1.cell? ⟨w.heap.size, 0, none⟩ = some (.slice p0 l.length c0) := (HB1.out.cell (cell_lt HJ0.out)).trans HJ0.out
            have r1 : W1.cell? ⟨w.heap.size, 1, none⟩ = some (.slice p1 acts.length c1) := (HB1.out.cell (cell_lt HJ1.out)).trans HJ1.out
            have HS := Lib.hid (HSE.out W1 ch[k].2.2.2.2 _ HBW1.out (HCO.out _ (List.getElem_mem hlt)).2.2.2.2 (hul.stays (keeps_of_below HBW1.out)))
            have HFA : Hid (∀ W, Below w.heap.size w W → W.cell? ⟨b3, o3 + k, none⟩ = some (.slice pa a[k].length ka) ∧ Nums W a[k] (.slice pa a[k].length ka)) := fun W h => ⟨(h.cell (cell_lt f1)).trans f1, hua.stays (keeps_of_below h)⟩
            have HFB : Hid (∀ W, Below w.heap.size w W → W.cell? ⟨b5, o5 + k, none⟩ = some (.slice pb b[k].length kb) ∧ Nums W b[k] (.slice pb b[k].length kb)) := fun W h => ⟨(h.cell (cell_lt f2)).trans f2, hub.stays (keeps_of_below h)⟩
            have hka' : (k : Int) < (a.length : Int) := by omega
            have hkb' : (k : Int) < (b.length : Int) := by omega
            clear g1 g2 g3 g4 g5 hul m1 hW1 z1 f1 f2 hua hub
            by_cases he : seesE l acts who ch[k].2.2.2.2 = 0
            · have HE := Lib.hid he
              cases hs : seesB l acts who ch[k].2.2.2.2 with
              | false =>
                have HSB := Lib.hid hs
                have HST := Lib.hid (alike_on hlt hka hkb he (.inl hs))
                clear he hs
                go_wp2_with (fail)
                refine HS.out.mono ?_
                rintro e w5 ⟨rfl, hb5⟩
                rw [HE.out, HSB.out]
                have HB5 := Lib.hid (HB1.out.trans (hb5.mono HB1.out.size))
                have HBW5 : Hid (Below w.heap.size w w5) := HBW1.out.trans (hb5.mono HBW1.out.size)
                clear hb5 hcell1 hcell2 hcell3 hcell4 hcell5 r0 r1 r5
                go_wp2
                go_quiet (fail)
                go_wp2
                go_roundw
                case rel =>
                  refine ⟨k + 1, _, by omega, by go_num, rfl, below_drewN HB5.out nq, fun j hj => ?_⟩
                  by_cases e : j = k
                  · subst e; exact HST.out
                  · exact HN.out j (by omega)
                case measure => simp [intOf]; omega
              | true =>
                have HSB := Lib.hid hs
                cases hq : (a[k] == b[k]) with
                | true =>
                  have HST := Lib.hid (alike_on (l := l) (acts := acts) (who := who) hlt hka hkb he (.inr hq))
                  have HQ := Lib.hid hq
                  clear he hs hq
                  go_wp2_with (fail)
                  refine HS.out.mono ?_
                  rintro e w5 ⟨rfl, hb5⟩
                  rw [HE.out, HSB.out]
                  have HB5 := Lib.hid (HB1.out.trans (hb5.mono HB1.out.size))
                  have HBW5 : Hid (Below w.heap.size w w5) := HBW1.out.trans (hb5.mono HBW1.out.size)
                  have ha5 := (HFA.out _ HBW5.out).1
                  have hb5' := (HFB.out _ HBW5.out).1
                  have HEQ : Hid (∀ n, Calls Tryd.prog 34 #[.slice pa a[k].length ka, .slice pb b[k].length kb] (w5.drewN n) fun e w'' => e = .returned (.bool true) ∧ ∃ m, w'' = (w5.drewN n).drewN m) := fun n => by
                    have := equalI_calls a[k] b[k] _ _ (w5.drewN n) (HFA.out _ (below_drewN HBW5.out n)).2 (HFB.out _ (below_drewN HBW5.out n)).2
                    rw [HQ.out] at this
                    exact this
                  clear hb5 hcell1 hcell2 hcell3 hcell4 hcell5 r0 r1 r5
                  go_wp2
                  go_quiet ((go_at_call 34; exact Calls.quiet_of (HEQ.out _)))
                  go_wp2
                  go_roundw
                  case rel =>
                    refine ⟨k + 1, _, by omega, by go_num, rfl, below_drewN HB5.out nq, fun j hj => ?_⟩
                    by_cases e : j = k
                    · subst e; exact HST.out
                    · exact HN.out j (by omega)
                  case measure => simp [intOf]; omega
                | false =>
                  have HX := Lib.hid (alike_ne HBD.out hlt hka hkb he hs hq HN.out)
                  have HQ := Lib.hid hq
                  clear he hs hq
                  go_wp2_with (fail)
                  refine HS.out.mono ?_
                  rintro e w5 ⟨rfl, hb5⟩
                  rw [HE.out, HSB.out]
                  have HB5 := Lib.hid (HB1.out.trans (hb5.mono HB1.out.size))
                  have HBW5 : Hid (Below w.heap.size w w5) := HBW1.out.trans (hb5.mono HBW1.out.size)
                  have ha5 := (HFA.out _ HBW5.out).1
                  have hb5' := (HFB.out _ HBW5.out).1
                  have HEQ : Hid (∀ n, Calls Tryd.prog 34 #[.slice pa a[k].length ka, .slice pb b[k].length kb] (w5.drewN n) fun e w'' => e = .returned (.bool false) ∧ ∃ m, w'' = (w5.drewN n).drewN m) := fun n => by
                    have := equalI_calls a[k] b[k] _ _ (w5.drewN n) (HFA.out _ (below_drewN HBW5.out n)).2 (HFB.out _ (below_drewN HBW5.out n)).2
                    rw [HQ.out] at this
                    exact this
                  clear hb5 hcell1 hcell2 hcell3 hcell4 hcell5 r0 r1 r5
                  go_wp2
                  go_quiet ((go_at_call 34; exact Calls.quiet_of (HEQ.out _)))
                  go_wp2
                  go_ret2
                  exact ⟨by rw [HX.out.1, HX.out.2]; rfl, below_drewN HBW5.out nq⟩
            · have HX := Lib.hid (alike_err HBD.out hlt he HN.out)
              have hq1 : (seesE l acts who ch[k].2.2.2.2 != 0) = true := by simpa using he
              have hq2 : (seesE l acts who ch[k].2.2.2.2 == 0) = false := by simpa using he
              clear he
              go_wp2_with (fail)
              refine HS.out.mono ?_
              rintro e w5 ⟨rfl, hb5⟩
              have HBW5 : Hid (Below w.heap.size w w5) := HBW1.out.trans (hb5.mono HBW1.out.size)
              clear hb5 hcell1 hcell2 hcell3 hcell4 hcell5 r0 r1 r5
              go_wp2
              go_ret2
              exact ⟨by rw [HX.out.1, HX.out.2]; rfl, HBW5.out⟩
          · have HX := Lib.hid (alike_yes HBD.out fun j hj => HN.out j (by omega))
            go_wp2
            go_ret2
            exact ⟨by rw [HX.out.1, HX.out.2]; rfl, HBW.out⟩
    · have t2 : ((b.length : Int) != (ch.length : Int)) = true := by rw [bne_iff_ne]; omega
      have HX := Lib.hid (alike_bad (l := l) (acts := acts) (who := who) (ch := ch) (a := a) (b := b) (by unfold badA; simp [h2]))
      clear h1 h2
      go_enter Tryd.func31, Tryd.ntmps31
      go_wp2
      go_ret2
      exact ⟨by rw [HX.out.1, HX.out.2]; rfl, HW0.out⟩
  · have t1 : ((a.length : Int) != (ch.length : Int)) = true := by rw [bne_iff_ne]; omega
    have HX := Lib.hid (alike_bad (l := l) (acts := acts) (who := who) (ch := ch) (a := a) (b := b) (by unfold badA; simp [h1]))
    clear h1
    go_enter Tryd.func31, Tryd.ntmps31
    go_wp2
    go_ret2
    exact ⟨by rw [HX.out.1, HX.out.2]; rfl, HW0.out⟩
end Go.Proofs.YtfbieagkhbmgjaaDoor
