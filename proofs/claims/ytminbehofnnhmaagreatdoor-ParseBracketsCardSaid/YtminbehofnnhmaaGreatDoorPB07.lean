/- Texts of the proof that ParseBrackets holds, part 7; no conditions. -/
import Derived.Test.YtminbehofnnhmaaGreatDoorPB02
namespace Go.Proofs.YtminbehofnnhmaaGreatDoor
set_option linter.unusedVariables false
set_option linter.unusedSimpArgs false
set_option maxHeartbeats 8000000
set_option maxRecDepth 100000
section
open Go.RowKit Go.Maps
section
variable {w : World} {B : Nat} {T : List Tok} {E : Int} {tv : Value} {k dp ns : Nat}
theorem expr_step (hlev : LevelC) {one : Nat → Rs Ex} (hm : Mono one) {n : Nat} (hn : n < 6) (hp : ReadsEx B T E tv dp ns 69 #[.pointer (some ⟨B, 0, none⟩), .int .i64 ((n : Int) + 1)] one) (h : Rdr w B T E tv k dp ns) :
 Calls Tryz.prog 69 #[.pointer (some ⟨B, 0, none⟩), .int .i64 n] w (Does w B T E tv dp ns ExIs ((one k).bind fun x k' => opLoop T one n T.length x k')) := by
 have hl := h.len
 have HL := Hd hl
 have HLEV : Hid LevelC := hlev
 have HM := Hd hm
 have HY := Hd hp
 have HBL : Hid (B < w.heap.size) := h.lt
 have hn1 : (n : Int) + 1 ≤ 9223372036854775807 := by omega
 have hwr : IntKind.i64.wrap ((n : Int) + 1) = (n : Int) + 1 := by rw [IntKind.wrap_i64]; omega
 have hn6 : ((n : Int) == 6) = false := beq_false_of_ne (by omega)
 obtain ⟨W1, eW⟩ : ∃ W1, w.alloc (.cells #[.int .i64 0, .int .i64 0, .int .i64 0, .int .i64 0, .string ⟨#[]⟩, .slice none 0 0, .slice none 0 0] 26) = W1 := ⟨_, rfl⟩
 have hb1 : Below w.heap.size w W1 := by rw [← eW]; exact (Below.refl _ _).alloc (Nat.le_refl _) _
 have HA1 := Hd (aside_below (B := B) hb1)
 have h1 := hp W1 k (h.below hb1)
 have H0 := Hd h
 clear hb1 h hp hlev hm hl hn
 cases hr : one k with
 | bad c a =>
   rw [hr] at h1
   have H1 := Hd h1
   clear h1 hr
   go_enter Tryz.func69, Tryz.ntmps69
   go_wp2_with (fail)
   refine H1.out.mono ?_
   rintro e w2 ⟨ha, rfl, hlf⟩
   have HA := Hd (HA1.out.trans ha)
   have HLF := Hd hlf
   clear hlf ha
   go_wp2_with (fail)
   exact ⟨rfl, HA.out, rfl, HLF.out⟩
 | ok x k1 =>
   rw [hr] at h1
   have H1 := Hd h1
   have HP : Hid (((one k).bind fun x k' => opLoop T one n T.length x k') = opLoop T one n T.length x k1) := by unfold Hid; rw [hr]; rfl
   have HPR : Hid (((Rs.ok x k1).bind fun x k' => opLoop T one n T.length x k') = opLoop T one n T.length x k1) := rfl
   clear h1 hr HP
   go_enter Tryz.func69, Tryz.ntmps69
   go_wp2_with (fail)
   refine H1.out.mono ?_
   rintro e w2 ⟨ha, v2, rfl, hr2, hx2⟩
   obtain ⟨vl, va, rfl, hvl, hva⟩ := hx2
   have HI2 := Hd (XI.first H0.out eW.symm ha hr2 hvl hva)
   obtain ⟨pl, cl, rfl, _⟩ := hvl
   obtain ⟨pa, ca, rfl, _⟩ := hva
   obtain ⟨W3, eW3⟩ : ∃ W3, w2.alloc (.cells (exC x (.slice pl x.lab.length cl) (.slice pa x.kids.length ca)).toArray 26) = W3 := ⟨_, rfl⟩
   have HI3 : Hid (XI w W3 w2.heap.size B T E tv dp ns x (.slice pl x.lab.length cl) (.slice pa x.kids.length ca) k1) := by rw [← eW3]; exact HI2.out
   have HSZ3 : Hid (w2.heap.size < W3.heap.size) := by rw [← eW3]; unfold Hid; simp
   clear ha hr2 HI2 H1 eW
   unfold exC at eW3
   go_wp2_with (fail)
   clear eW3
   go_loopg [6] T.length (fun f _ ws => ∃ (y : Ex) (vl va : Value) (k' : Nat) (wo : World), wo = ws ∧ Hid (T.length ≤ f + k') ∧ Hid (w2.heap.size < wo.heap.size) ∧ Hid (opLoop T one n T.length x k1 = opLoop T one n f y k') ∧ Hid (XI w wo w2.heap.size B T E tv dp ns y vl va k'))
   case atStart => exact ⟨x, _, _, k1, _, rfl, by unfold Hid; omega, HSZ3.out, rfl, HI3.out⟩
   case round =>
    clear HI3 HSZ3
    obtain ⟨y, vl, va, k2, wo, rfl, HF, HSZ, HG, HI⟩ := hrel
    obtain ⟨pl, cl, rfl, _⟩ := HI.out.lab
    obtain ⟨pa, ca, rfl, _⟩ := HI.out.kids
    have HNX := Hd (next_calls HI.out.rdr)
    have HSTOP : Hid ((tkNext T k2).1 ≠ 4 ∨ levelT (tkNext T k2).2.2 ≠ n → opLoop T one n gk y k2 = .ok y k2) := fun hc => opLoop_stop gk hc
    have HGO : Hid (¬ ((tkNext T k2).1 ≠ 4 ∨ levelT (tkNext T k2).2.2 ≠ n) → k2 < T.length ∧ ∃ f', gk = f' + 1 ∧ opLoop T one n gk y k2 = (one (k2 + 1)).bind fun z k' => opLoop T one n f' (.mk 3 (tkNext T k2).2.1 0 0 (tkNext T k2).2.2 [] [y, z]) k') := fun hc => by
     have hlt : k2 < T.length := kind_lt (fun e => hc (.inl (by omega)))
     have hf := HF.out
     obtain ⟨f', rfl⟩ : ∃ f', gk = f' + 1 := ⟨gk - 1, by omega⟩
     exact ⟨hlt, f', rfl, by rw [opLoop, if_neg hc]⟩
    generalize tkNext T k2 = t at *
    obtain ⟨t0, t1, t2⟩ := t
    go_wp2_with (fail)
    refine HNX.out.mono ?_
    rintro e w3 ⟨rfl, hb3⟩
    obtain ⟨W4, eW4⟩ : ∃ W4, w3.alloc (.cells #[.int .i64 t0, .int .i64 t1, .string t2] 183) = W4 := ⟨_, rfl⟩
    have hb4 : Below w3.heap.size w3 W4 := by rw [← eW4]; exact (Below.refl _ _).alloc (Nat.le_refl _) _
    have HSZ3 : Hid (w2.heap.size < w3.heap.size) := by have := HSZ.out; have := hb3.size; unfold Hid; omega
    have HI4 := Hd (HI.out.below HBL.out (hb3.trans (hb4.mono hb3.size)))
    have HT4 : Hid (Blk W4 w3.heap.size [.int .i64 t0, .int .i64 t1, .string t2] 183) := by rw [← eW4]; exact Blk.new _ _ _
    have HNB3 : Hid (w3.heap.size ≠ B) := by have := hb3.size; have := HI.out.rdr.lt; unfold Hid; omega
    have d0 := HT4.out.cell 0
    have d2 := HT4.out.cell 2
    simp only [List.getElem?_cons_zero, List.getElem?_cons_succ] at d0 d2
    clear hb3 hb4 HNX HI HSZ
    by_cases ha : t0 = 4
    · have ha1 : (t0 != 4) = false := by simp [ha]
      have ha2 : (t0 == 4) = true := by simp [ha]
      have HLV := Hd (HLEV.out t2 W4 HI4.out.rdr.tab.bare)
      by_cases hb : levelT t2 = n
      · have HGO2 := Hd (HGO.out (fun e => by rcases e with e | e; exact e ha; exact e hb))
        generalize levelT t2 = lv at *
        have hb1 : (lv != (n : Int)) = false := by simp [hb]
        have hb2 : (lv == (n : Int)) = true := by simp [hb]
        clear ha hb HGO HSTOP
        go_wp2_with (fail)
        refine HLV.out.mono ?_
        rintro e w5 ⟨rfl, hb5⟩
        obtain ⟨hlt, f', rfl, hgo⟩ := HGO2.out
        have HGO3 := Hd hgo
        have HI5 := HI4.out.below HBL.out hb5
        have c1 := HI5.rdr.c1
        have f1 := HI5.rdr.fz 1
        have hw : (k2 : Int) + 1 ≤ 9223372036854775807 := by have := HL.out; omega
        obtain ⟨W6, eW6⟩ : ∃ W6, w5.setCell ⟨B, 1, none⟩ (.int .i64 ((k2 : Int) + 1)) = W6 := ⟨_, rfl⟩
        have HXK : Hid (XI w W6 w2.heap.size B T E tv dp ns y (.slice pl y.lab.length cl) (.slice pa y.kids.length ca) (k2 + 1)) := by rw [← eW6]; exact HI5.step HBL.out (aside_set _ _) (HI5.rdr.setK (k2 + 1))
        have hT6 : Blk W6 w3.heap.size [.int .i64 t0, .int .i64 t1, .string t2] 183 := by rw [← eW6]; exact ((HT4.out.below hb5).other HNB3.out _ _)
        have HTB : Hid (∀ W, Aside1 B W6 W → Blk W w3.heap.size [.int .i64 t0, .int .i64 t1, .string t2] 183) := fun W ha => hT6.aside ha HNB3.out
        have HTK : Hid (∀ W, Aside1 B W6 W → W.cell? ⟨w3.heap.size, 1, none⟩ = some (.int .i64 t1) ∧ W.cell? ⟨w3.heap.size, 2, none⟩ = some (.string t2)) := fun W ha => ⟨(HTB.out W ha).cell 1, (HTB.out W ha).cell 2⟩
        have HTA : Hid (∀ W o, Aside1 B W6 W → (W.alloc o).cell? ⟨w3.heap.size, 1, none⟩ = some (.int .i64 t1) ∧ (W.alloc o).cell? ⟨w3.heap.size, 2, none⟩ = some (.string t2)) := fun W o ha => HTK.out _ (aside_alloc ha o)
        have HTS : Hid (∀ W a b c d e f g, Aside1 B W6 W → (sev W w2.heap.size a b c d e f g).cell? ⟨w3.heap.size, 1, none⟩ = some (.int .i64 t1) ∧ (sev W w2.heap.size a b c d e f g).cell? ⟨w3.heap.size, 2, none⟩ = some (.string t2)) := fun W a b c d e f g ha => by
         have hne : w2.heap.size ≠ w3.heap.size := Nat.ne_of_lt HSZ3.out
         have hq : Blk (sev W w2.heap.size a b c d e f g) w3.heap.size [.int .i64 t0, .int .i64 t1, .string t2] 183 := (sev_block hne).trans (HTB.out W ha)
         exact ⟨hq.cell 1, hq.cell 2⟩
        have HSZ6 : Hid (w2.heap.size < W6.heap.size) := by have h1 := HSZ3.out; have h2 := hT6.lt; unfold Hid; omega
        have d1 := (HTK.out W6 (Aside1.refl _ _)).1
        have d2' := (HTK.out W6 (Aside1.refl _ _)).2
        clear hlt hgo hb5 HI5 hT6 d0 d2 eW4 HGO2 HLV HI4 HT4
        cases hz : one (k2 + 1) with
        | bad c a =>
          have HY2 : Hid (∀ W, Rdr W B T E tv (k2 + 1) dp ns → Calls Tryz.prog 69 #[.pointer (some ⟨B, 0, none⟩), .int .i64 ((n : Int) + 1)] W (Does W B T E tv dp ns ExIs (.bad c a))) := fun W hr => by rw [← hz]; exact HY.out W _ hr
          have HPE : Hid (((Rs.ok x k1).bind fun x k' => opLoop T one n T.length x k') = .bad c a) := by unfold Hid; rw [HPR.out, HG.out, HGO3.out, hz]; rfl
          clear hz HG HGO3
          go_wp2_with (fail)
          refine wp_region_held_drew (S := fun w' => w'.cell? ⟨w3.heap.size, 1, none⟩ = some (.int .i64 t1) ∧ w'.cell? ⟨w3.heap.size, 2, none⟩ = some (.string t2)) (by kernel_rfl) ?_ (fun hHeld => ?_)
          · exact HTK.out _ (aside_below (below_drew1 _))
          have hB5 := HXK.out.box.below (below_drew1 _)
          obtain ⟨q0, q1, q2, q3, q4, q5, q6⟩ := hB5.cells7
          refine wpAnyH_take (i := 0) (v := ?v0x1) rfl (by kernel_rfl) (by kernel_rfl) (by kernel_rfl) (fun _ _ _ h => h) (Or.inl ⟨by rfl, ?h0x1⟩) (by assumption) ?r0x1
          case h0x1 => (intro w hSw; (try dsimp only at hSw); first | (go_simp; done) | (go_simp; with_reducible rfl))
          try simp only [Act.put, List.setIfInBounds_toArray, List.set_cons_zero, List.set_cons_succ]
          refine wpAnyH_take (i := 1) (v := ?v1x2) rfl (by kernel_rfl) (by kernel_rfl) (by kernel_rfl) (fun _ _ _ h => h) (Or.inl ⟨by rfl, ?h1x2⟩) (by assumption) ?r1x2
          case h1x2 => (intro w hSw; (try dsimp only at hSw); first | (go_simp; done) | (go_simp; with_reducible rfl))
          try simp only [Act.put, List.setIfInBounds_toArray, List.set_cons_zero, List.set_cons_succ]
          refine wpAnyH_take (i := 2) (v := ?v2x3) rfl (by kernel_rfl) (by kernel_rfl) (by kernel_rfl) (fun _ _ _ h => h) (Or.inl ⟨by rfl, ?h2x3⟩) (by assumption) ?r2x3
          case h2x3 => (intro w hSw; (try dsimp only at hSw); first | (go_simp; done) | (go_simp; with_reducible rfl))
          try simp only [Act.put, List.setIfInBounds_toArray, List.set_cons_zero, List.set_cons_succ]
          refine wpAnyH_take (i := 3) (v := ?v3x4) rfl (by kernel_rfl) (by kernel_rfl) (by kernel_rfl) (fun _ _ _ h => h) (Or.inl ⟨by rfl, ?h3x4⟩) (by assumption) ?r3x4
          case h3x4 => (intro w hSw; (try dsimp only at hSw); first | (go_simp; done) | (go_simp; with_reducible rfl))
          try simp only [Act.put, List.setIfInBounds_toArray, List.set_cons_zero, List.set_cons_succ]
          refine wpAnyH_take (i := 5) (v := ?v5x5) rfl (by kernel_rfl) (by kernel_rfl) (by kernel_rfl) (fun _ _ _ h => h) (Or.inl ⟨by rfl, ?h5x5⟩) (by assumption) ?r5x5
          case h5x5 => (intro w hSw; (try dsimp only at hSw); first | (go_simp; done) | (go_simp; with_reducible rfl))
          try simp only [Act.put, List.setIfInBounds_toArray, List.set_cons_zero, List.set_cons_succ]
          refine wpAnyH_take (i := 6) (v := ?v6x6) rfl (by kernel_rfl) (by kernel_rfl) (by kernel_rfl) (fun _ _ _ h => h) (Or.inl ⟨by rfl, ?h6x6⟩) (by assumption) ?r6x6
          case h6x6 => (intro w hSw; (try dsimp only at hSw); first | (go_simp; done) | (go_simp; with_reducible rfl))
          try simp only [Act.put, List.setIfInBounds_toArray, List.set_cons_zero, List.set_cons_succ]
          refine wpAnyH_take (i := 7) (v := ?v7x7) rfl (by kernel_rfl) (by kernel_rfl) (by kernel_rfl) (fun _ _ _ h => h) (Or.inl ⟨by rfl, ?h7x7⟩) (by assumption) ?r7x7
          case h7x7 => (intro w hSw; (try dsimp only at hSw); first | (go_simp; done) | (go_simp; with_reducible rfl))
          try simp only [Act.put, List.setIfInBounds_toArray, List.set_cons_zero, List.set_cons_succ]
          refine wpAnyH_ready (rs := [4, 8]) (by kernel_rfl) (by simp) ?_
          refine AllReadyH.cons rfl (fun K hK => ?_) (AllReadyH.cons rfl (fun K hK => ?_) AllReadyH.nil)
          · skip
            go_simp
            refine hK.out _ _ ?_ (fun hHeld => ?_)
            · exact HTK.out _ (aside_below (below_drew1 _))
            clear hK K
            try simp only [Act.put, List.setIfInBounds_toArray, List.set_cons_zero, List.set_cons_succ]
            refine wpAnyH_ready (rs := [8]) (by kernel_rfl) (by simp) ?_
            refine AllReadyH.cons rfl (fun K hK => ?_) AllReadyH.nil
            go_simp
            go_at_call 69
            refine (HY2.out _ (HXK.out.rdr.below (below_drew1 _))).mono ?_
            rintro e w7 ⟨ha, rfl, hlf⟩
            have HA := Hd ((HXK.out.aside.trans (aside_below (below_drew1 _))).trans ha)
            have HLF := Hd hlf
            clear hlf ha
            go_wp2_with (fail)
            rw [HPE.out]
            exact ⟨rfl, HA.out, rfl, HLF.out⟩
          · skip
            go_simp
            go_at_call 69
            refine (HY2.out _ (HXK.out.rdr.below (below_drew1 _))).mono ?_
            rintro e w7 ⟨ha, rfl, hlf⟩
            have HA := Hd ((HXK.out.aside.trans (aside_below (below_drew1 _))).trans ha)
            have HLF := Hd hlf
            clear hlf ha
            go_wp2_with (fail)
            rw [HPE.out]
            exact ⟨rfl, HA.out, rfl, HLF.out⟩
        | ok z k3 =>
          have HY2 : Hid (∀ W, Rdr W B T E tv (k2 + 1) dp ns → Calls Tryz.prog 69 #[.pointer (some ⟨B, 0, none⟩), .int .i64 ((n : Int) + 1)] W (Does W B T E tv dp ns ExIs (.ok z k3))) := fun W hr => by rw [← hz]; exact HY.out W _ hr
          have HG3 : Hid (opLoop T one n T.length x k1 = opLoop T one n f' (.mk 3 t1 0 0 t2 [] [y, z]) k3) := by unfold Hid; rw [HG.out, HGO3.out, hz]; rfl
          have HF3 : Hid (T.length ≤ f' + k3) := by have h1 := HF.out; have h2 := HM.out _ _ _ hz; unfold Hid; omega
          clear hz HG HGO3
          go_wp2_with (fail)
          refine wp_region_held_drew (S := fun w' => w'.cell? ⟨w3.heap.size, 1, none⟩ = some (.int .i64 t1) ∧ w'.cell? ⟨w3.heap.size, 2, none⟩ = some (.string t2)) (by kernel_rfl) ?_ (fun hHeld => ?_)
          · exact HTK.out _ (aside_below (below_drew1 _))
          have hB5 := HXK.out.box.below (below_drew1 _)
          obtain ⟨q0, q1, q2, q3, q4, q5, q6⟩ := hB5.cells7
          refine wpAnyH_take (i := 0) (v := ?v0x101) rfl (by kernel_rfl) (by kernel_rfl) (by kernel_rfl) (fun _ _ _ h => h) (Or.inl ⟨by rfl, ?h0x101⟩) (by assumption) ?r0x101
          case h0x101 => (intro w hSw; (try dsimp only at hSw); first | (go_simp; done) | (go_simp; with_reducible rfl))
          try simp only [Act.put, List.setIfInBounds_toArray, List.set_cons_zero, List.set_cons_succ]
          refine wpAnyH_take (i := 1) (v := ?v1x102) rfl (by kernel_rfl) (by kernel_rfl) (by kernel_rfl) (fun _ _ _ h => h) (Or.inl ⟨by rfl, ?h1x102⟩) (by assumption) ?r1x102
          case h1x102 => (intro w hSw; (try dsimp only at hSw); first | (go_simp; done) | (go_simp; with_reducible rfl))
          try simp only [Act.put, List.setIfInBounds_toArray, List.set_cons_zero, List.set_cons_succ]
          refine wpAnyH_take (i := 2) (v := ?v2x103) rfl (by kernel_rfl) (by kernel_rfl) (by kernel_rfl) (fun _ _ _ h => h) (Or.inl ⟨by rfl, ?h2x103⟩) (by assumption) ?r2x103
          case h2x103 => (intro w hSw; (try dsimp only at hSw); first | (go_simp; done) | (go_simp; with_reducible rfl))
          try simp only [Act.put, List.setIfInBounds_toArray, List.set_cons_zero, List.set_cons_succ]
          refine wpAnyH_take (i := 3) (v := ?v3x104) rfl (by kernel_rfl) (by kernel_rfl) (by kernel_rfl) (fun _ _ _ h => h) (Or.inl ⟨by rfl, ?h3x104⟩) (by assumption) ?r3x104
          case h3x104 => (intro w hSw; (try dsimp only at hSw); first | (go_simp; done) | (go_simp; with_reducible rfl))
          try simp only [Act.put, List.setIfInBounds_toArray, List.set_cons_zero, List.set_cons_succ]
          refine wpAnyH_take (i := 5) (v := ?v5x105) rfl (by kernel_rfl) (by kernel_rfl) (by kernel_rfl) (fun _ _ _ h => h) (Or.inl ⟨by rfl, ?h5x105⟩) (by assumption) ?r5x105
          case h5x105 => (intro w hSw; (try dsimp only at hSw); first | (go_simp; done) | (go_simp; with_reducible rfl))
          try simp only [Act.put, List.setIfInBounds_toArray, List.set_cons_zero, List.set_cons_succ]
          refine wpAnyH_take (i := 6) (v := ?v6x106) rfl (by kernel_rfl) (by kernel_rfl) (by kernel_rfl) (fun _ _ _ h => h) (Or.inl ⟨by rfl, ?h6x106⟩) (by assumption) ?r6x106
          case h6x106 => (intro w hSw; (try dsimp only at hSw); first | (go_simp; done) | (go_simp; with_reducible rfl))
          try simp only [Act.put, List.setIfInBounds_toArray, List.set_cons_zero, List.set_cons_succ]
          refine wpAnyH_take (i := 7) (v := ?v7x107) rfl (by kernel_rfl) (by kernel_rfl) (by kernel_rfl) (fun _ _ _ h => h) (Or.inl ⟨by rfl, ?h7x107⟩) (by assumption) ?r7x107
          case h7x107 => (intro w hSw; (try dsimp only at hSw); first | (go_simp; done) | (go_simp; with_reducible rfl))
          try simp only [Act.put, List.setIfInBounds_toArray, List.set_cons_zero, List.set_cons_succ]
          refine wpAnyH_ready (rs := [4, 8]) (by kernel_rfl) (by simp) ?_
          refine AllReadyH.cons rfl (fun K hK => ?_) (AllReadyH.cons rfl (fun K hK => ?_) AllReadyH.nil)
          · skip
            go_simp
            refine hK.out _ _ ?_ (fun hHeld => ?_)
            · exact HTK.out _ (aside_below (below_drew1 _))
            clear hK K
            try simp only [Act.put, List.setIfInBounds_toArray, List.set_cons_zero, List.set_cons_succ]
            refine wpAnyH_ready (rs := [8]) (by kernel_rfl) (by simp) ?_
            refine AllReadyH.cons rfl (fun K hK => ?_) AllReadyH.nil
            go_simp
            go_at_call 69
            refine (HY2.out _ (HXK.out.rdr.below (below_drew1 _))).mono ?_
            rintro e w7 ⟨ha, v7, rfl, hr7, hx7⟩
            have HX7 := Hd ((HXK.out.below HBL.out (below_drew1 _)).step HBL.out ha hr7)
            have hT7 := HTK.out _ ((aside_below (below_drew1 _)).trans ha)
            obtain ⟨vl7, va7, rfl, hl7, hk7⟩ := hx7
            have hl7' := hl7
            have hk7' := hk7
            obtain ⟨pl7, cl7, rfl, _⟩ := hl7
            obtain ⟨pa7, ca7, rfl, _⟩ := hk7
            have HA7 := Hd ha
            obtain ⟨s0, s1, s2, s3, s4, s5, s6⟩ := HX7.out.box.cells7
            obtain ⟨W8, eW8⟩ : ∃ W8, w7.alloc (.cells (exC y (.slice pl y.lab.length cl) (.slice pa y.kids.length ca) ++ exC z (.slice pl7 z.lab.length cl7) (.slice pa7 z.kids.length ca7)).toArray 26) = W8 := ⟨_, rfl⟩
            have hb8 : Below w7.heap.size w7 W8 := by rw [← eW8]; exact (Below.refl _ _).alloc (Nat.le_refl _) _
            have HX8 := Hd (HX7.out.below HBL.out hb8)
            have HA8 : Hid (Aside1 B W6 W8) := (aside_below (below_drew1 _)).trans (ha.trans (aside_below hb8))
            obtain ⟨r0, r1, r2, r3, r4, r5, r6⟩ := HX8.out.box.cells7
            obtain ⟨fz0, fz1, fz2, fz3, fz4, fz5, fz6⟩ := HX8.out.box.fz7
            have HSF : Hid (w2.heap.size < (sev W8 w2.heap.size (.int .i64 3) (.int .i64 t1) (.int .i64 0) (.int .i64 0) (.string t2) (.slice none 0 0) (.slice (some ⟨w7.heap.size, 0, none⟩) 2 2)).heap.size) := by rw [sev_size]; have h1 := HSZ6.out; have h2 := ha.size; have h3 := hb8.size; have h4 : W6.drew.heap.size = W6.heap.size := rfl; unfold Hid; omega
            have HNX : Hid (XI w (sev W8 w2.heap.size (.int .i64 3) (.int .i64 t1) (.int .i64 0) (.int .i64 0) (.string t2) (.slice none 0 0) (.slice (some ⟨w7.heap.size, 0, none⟩) 2 2)) w2.heap.size B T E tv dp ns (.mk 3 t1 0 0 t2 [] [y, z]) (.slice none 0 0) (.slice (some ⟨w7.heap.size, 0, none⟩) 2 2) k3) := HX7.out.next H0.out HBL.out (w6 := W6.drew) HSZ6.out hl7' hk7' 3 t1 t2 (by rw [← eW8]) ha.size (by have h1 := HSZ6.out; have h2 := HX7.out.old; have h4 : W6.drew.heap.size = W6.heap.size := rfl; omega)
            unfold exC at eW8
            simp only [List.cons_append, List.nil_append] at eW8
            clear ha hr7 hb8 hl7' hk7'
            go_wp2_with (fail)
            refine hK.out _ _ ?_ (fun hHeld => ?_)
            · exact hT7
            clear hK K
            try simp only [Act.put, List.setIfInBounds_toArray, List.set_cons_zero, List.set_cons_succ]
            refine wpAnyH_ready (rs := [9]) (by kernel_rfl) (by simp) ?_
            refine AllReadyH.cons rfl (fun K hK => ?_) AllReadyH.nil
            go_simp
            refine hK.out _ _ ?_ (fun hHeld => ?_)
            · exact HTK.out _ HA8.out
            clear hK K
            try simp only [Act.put, List.setIfInBounds_toArray, List.set_cons_zero, List.set_cons_succ]
            refine wpAnyH_take (i := 10) (v := ?v10x108) rfl (by kernel_rfl) (by kernel_rfl) (by kernel_rfl) (fun _ _ _ h => h) (Or.inl ⟨by rfl, ?h10x108⟩) (by assumption) ?r10x108
            case h10x108 => (intro w hSw; (try dsimp only at hSw); first | (go_simp; done) | (go_simp; with_reducible rfl))
            try simp only [Act.put, List.setIfInBounds_toArray, List.set_cons_zero, List.set_cons_succ]
            refine wpAnyH_ready (rs := [11]) (by kernel_rfl) (by simp) ?_
            refine AllReadyH.cons rfl (fun K hK => ?_) AllReadyH.nil
            go_simp
            refine hK.out _ _ ?_ (fun hHeld => ?_)
            · exact HTS.out _ _ _ _ _ _ _ _ HA8.out
            clear hK K
            try simp only [Act.put, List.setIfInBounds_toArray, List.set_cons_zero, List.set_cons_succ]
            refine wpAnyH_done (by kernel_rfl) ?_ _
            go_wp2_with (fail)
            go_roundg f'
            case measure => omega
            case rel => exact ⟨_, _, _, k3, _, rfl, HF3.out, HSF.out, HG3.out, HNX.out⟩
          · skip
            go_simp
            go_at_call 69
            refine (HY2.out _ (HXK.out.rdr.below (below_drew1 _))).mono ?_
            rintro e w7 ⟨ha, v7, rfl, hr7, hx7⟩
            have HX7 := Hd ((HXK.out.below HBL.out (below_drew1 _)).step HBL.out ha hr7)
            have hT7 := HTK.out _ ((aside_below (below_drew1 _)).trans ha)
            obtain ⟨vl7, va7, rfl, hl7, hk7⟩ := hx7
            have hl7' := hl7
            have hk7' := hk7
            obtain ⟨pl7, cl7, rfl, _⟩ := hl7
            obtain ⟨pa7, ca7, rfl, _⟩ := hk7
            have HA7 := Hd ha
            obtain ⟨s0, s1, s2, s3, s4, s5, s6⟩ := HX7.out.box.cells7
            obtain ⟨W8, eW8⟩ : ∃ W8, w7.alloc (.cells (exC y (.slice pl y.lab.length cl) (.slice pa y.kids.length ca) ++ exC z (.slice pl7 z.lab.length cl7) (.slice pa7 z.kids.length ca7)).toArray 26) = W8 := ⟨_, rfl⟩
            have hb8 : Below w7.heap.size w7 W8 := by rw [← eW8]; exact (Below.refl _ _).alloc (Nat.le_refl _) _
            have HX8 := Hd (HX7.out.below HBL.out hb8)
            have HA8 : Hid (Aside1 B W6 W8) := (aside_below (below_drew1 _)).trans (ha.trans (aside_below hb8))
            obtain ⟨r0, r1, r2, r3, r4, r5, r6⟩ := HX8.out.box.cells7
            obtain ⟨fz0, fz1, fz2, fz3, fz4, fz5, fz6⟩ := HX8.out.box.fz7
            have HSF : Hid (w2.heap.size < (sev W8 w2.heap.size (.int .i64 3) (.int .i64 t1) (.int .i64 0) (.int .i64 0) (.string t2) (.slice none 0 0) (.slice (some ⟨w7.heap.size, 0, none⟩) 2 2)).heap.size) := by rw [sev_size]; have h1 := HSZ6.out; have h2 := ha.size; have h3 := hb8.size; have h4 : W6.drew.heap.size = W6.heap.size := rfl; unfold Hid; omega
            have HNX : Hid (XI w (sev W8 w2.heap.size (.int .i64 3) (.int .i64 t1) (.int .i64 0) (.int .i64 0) (.string t2) (.slice none 0 0) (.slice (some ⟨w7.heap.size, 0, none⟩) 2 2)) w2.heap.size B T E tv dp ns (.mk 3 t1 0 0 t2 [] [y, z]) (.slice none 0 0) (.slice (some ⟨w7.heap.size, 0, none⟩) 2 2) k3) := HX7.out.next H0.out HBL.out (w6 := W6.drew) HSZ6.out hl7' hk7' 3 t1 t2 (by rw [← eW8]) ha.size (by have h1 := HSZ6.out; have h2 := HX7.out.old; have h4 : W6.drew.heap.size = W6.heap.size := rfl; omega)
            unfold exC at eW8
            simp only [List.cons_append, List.nil_append] at eW8
            clear ha hr7 hb8 hl7' hk7'
            go_wp2_with (fail)
            refine hK.out _ _ ?_ (fun hHeld => ?_)
            · exact hT7
            clear hK K
            try simp only [Act.put, List.setIfInBounds_toArray, List.set_cons_zero, List.set_cons_succ]
            refine wpAnyH_ready (rs := [4]) (by kernel_rfl) (by simp) ?_
            refine AllReadyH.cons rfl (fun K hK => ?_) AllReadyH.nil
            go_simp
            refine hK.out _ _ ?_ (fun hHeld => ?_)
            · exact hT7
            clear hK K
            try simp only [Act.put, List.setIfInBounds_toArray, List.set_cons_zero, List.set_cons_succ]
            refine wpAnyH_ready (rs := [9]) (by kernel_rfl) (by simp) ?_
            refine AllReadyH.cons rfl (fun K hK => ?_) AllReadyH.nil
            go_simp
            refine hK.out _ _ ?_ (fun hHeld => ?_)
            · exact HTK.out _ HA8.out
            clear hK K
            try simp only [Act.put, List.setIfInBounds_toArray, List.set_cons_zero, List.set_cons_succ]
            refine wpAnyH_take (i := 10) (v := ?v10x109) rfl (by kernel_rfl) (by kernel_rfl) (by kernel_rfl) (fun _ _ _ h => h) (Or.inl ⟨by rfl, ?h10x109⟩) (by assumption) ?r10x109
            case h10x109 => (intro w hSw; (try dsimp only at hSw); first | (go_simp; done) | (go_simp; with_reducible rfl))
            try simp only [Act.put, List.setIfInBounds_toArray, List.set_cons_zero, List.set_cons_succ]
            refine wpAnyH_ready (rs := [11]) (by kernel_rfl) (by simp) ?_
            refine AllReadyH.cons rfl (fun K hK => ?_) AllReadyH.nil
            go_simp
            refine hK.out _ _ ?_ (fun hHeld => ?_)
            · exact HTS.out _ _ _ _ _ _ _ _ HA8.out
            clear hK K
            try simp only [Act.put, List.setIfInBounds_toArray, List.set_cons_zero, List.set_cons_succ]
            refine wpAnyH_done (by kernel_rfl) ?_ _
            go_wp2_with (fail)
            go_roundg f'
            case measure => omega
            case rel => exact ⟨_, _, _, k3, _, rfl, HF3.out, HSF.out, HG3.out, HNX.out⟩
      · have HE : Hid (opLoop T one n T.length x k1 = .ok y k2) := HG.out.trans (HSTOP.out (.inr hb))
        generalize levelT t2 = lv at *
        have hb1 : (lv != (n : Int)) = true := by simp [hb]
        have hb2 : (lv == (n : Int)) = false := by simp [hb]
        clear ha hb HGO HSTOP HG
        go_wp2_with (fail)
        refine HLV.out.mono ?_
        rintro e w5 ⟨rfl, hb5⟩
        have HI5 := Hd (HI4.out.below HBL.out hb5)
        obtain ⟨c0, c1, c2, c3, c4, c5, c6⟩ := HI5.out.box.cells7
        obtain ⟨r0, r1, r2, r3, r4, r5, r6⟩ := HI5.out.res.cells7
        obtain ⟨f0, f1, f2, f3, f4, f5, f6⟩ := HI5.out.res.fz7
        clear hb5 d0 d2 eW4
        go_wp2_with (fail)
        rw [HPR.out, HE.out]
        refine bodyPost_ret (v := .agg #[.int .i64 y.kind, .int .i64 y.at_, .int .i64 y.num, .int .i64 y.ty, .string y.name, .slice pl y.lab.length cl, .slice pa y.kids.length ca]) ?_ rfl ?_
        · obtain ⟨q0, q1, q2, q3, q4, q5, q6⟩ := (Blk.sev (a := .int .i64 y.kind) (b := .int .i64 y.at_) (c := .int .i64 y.num) (d := .int .i64 y.ty) (e := .string y.name) (f := .slice pl y.lab.length cl) (g := .slice pa y.kids.length ca) HI5.out.res).cells7
          unfold sev at q0 q1 q2 q3 q4 q5 q6
          simp [results, Tryz.results69, go_sem, q0, q1, q2, q3, q4, q5, q6]
        · exact expr_out H0.out HI5.out HBL.out
    · have HE : Hid (opLoop T one n T.length x k1 = .ok y k2) := HG.out.trans (HSTOP.out (.inl ha))
      have ha1 : (t0 != 4) = true := by simp [ha]
      have ha2 : (t0 == 4) = false := by simp [ha]
      obtain ⟨c0, c1, c2, c3, c4, c5, c6⟩ := HI4.out.box.cells7
      obtain ⟨r0, r1, r2, r3, r4, r5, r6⟩ := HI4.out.res.cells7
      obtain ⟨f0, f1, f2, f3, f4, f5, f6⟩ := HI4.out.res.fz7
      clear ha HGO HSTOP HG
      go_wp2_with (fail)
      rw [HPR.out, HE.out]
      refine bodyPost_ret (v := .agg #[.int .i64 y.kind, .int .i64 y.at_, .int .i64 y.num, .int .i64 y.ty, .string y.name, .slice pl y.lab.length cl, .slice pa y.kids.length ca]) ?_ rfl ?_
      · obtain ⟨q0, q1, q2, q3, q4, q5, q6⟩ := (Blk.sev (a := .int .i64 y.kind) (b := .int .i64 y.at_) (c := .int .i64 y.num) (d := .int .i64 y.ty) (e := .string y.name) (f := .slice pl y.lab.length cl) (g := .slice pa y.kids.length ca) HI4.out.res).cells7
        unfold sev at q0 q1 q2 q3 q4 q5 q6
        simp [results, Tryz.results69, go_sem, q0, q1, q2, q3, q4, q5, q6]
      · exact expr_out H0.out HI4.out HBL.out
end
end
end Go.Proofs.YtminbehofnnhmaaGreatDoor
