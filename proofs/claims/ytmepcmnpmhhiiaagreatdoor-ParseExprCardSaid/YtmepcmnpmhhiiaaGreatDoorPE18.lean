/- Texts of the proof that ParseExpr holds, part 18; no conditions. -/
import Derived.Test.YtmepcmnpmhhiiaaGreatDoorPE16
import Derived.Test.YtmepcmnpmhhiiaaGreatDoorPE02
namespace Go.Proofs.YtmepcmnpmhhiiaaGreatDoor
set_option linter.unusedVariables false
set_option linter.unusedSimpArgs false
set_option maxHeartbeats 8000000
set_option maxRecDepth 100000
section
open Go.RowKit Go.Maps
theorem refSamePol_calls (p q : Pol) (va vb : Value) (w : World) (hp : PolIs w p va) (hq : PolIs w q vb) : Calls Tryz.prog 51 #[va, vb] w fun e w' => e = .returned (.bool (samePol p q)) ∧ Below w.heap.size w w' := by
 obtain ⟨vr, rfl, hvr⟩ := hp
 obtain ⟨us, rfl, hus⟩ := hq
 obtain ⟨pr, cr, rfl, h1⟩ := hvr
 obtain ⟨ps, cs, rfl, h2⟩ := hus
 have hvr : Strs w p.2 (.slice pr p.2.length cr) := ⟨pr, cr, rfl, h1⟩
 have hus : Strs w q.2 (.slice ps q.2.length cs) := ⟨ps, cs, rfl, h2⟩
 obtain ⟨W2, eW⟩ : ∃ W2, (w.alloc (.cells #[.string p.1, .slice pr p.2.length cr] 77)).alloc (.cells #[.string q.1, .slice ps q.2.length cs] 77) = W2 := ⟨_, rfl⟩
 obtain ⟨z2, hb2, m0, m1⟩ := boxes2 eW
 have d0 : W2.cell? ⟨w.heap.size, 0, none⟩ = some (.string p.1) := m0 0
 have d1 : W2.cell? ⟨w.heap.size, 1, none⟩ = some (.slice pr p.2.length cr) := m0 1
 have f0 : W2.cell? ⟨w.heap.size + 1, 0, none⟩ = some (.string q.1) := m1 0
 have f1 : W2.cell? ⟨w.heap.size + 1, 1, none⟩ = some (.slice ps q.2.length cs) := m1 1
 have HE := Hd (equalS_calls p.2 q.2 _ _ W2 (hvr.stays (keeps_of_below hb2)) (hus.stays (keeps_of_below hb2)))
 have HB2 := Hd hb2
 have HR : Hid (samePol p q = ((p.1 == q.1) && (p.2 == q.2))) := rfl
 generalize (p.2 == q.2) = b2 at *
 clear hb2 m0 m1 z2 hvr hus h1 h2
 by_cases ho : p.1 = q.1
 · have HO : Hid ((p.1 == q.1) = true) := by simp [Hid, ho]
   have hl : p.1.toList = q.1.toList := by rw [ho]
   clear ho
   go_enter Tryz.func51, Tryz.ntmps51
   go_wp2_with (fail)
   refine HE.out.mono ?_
   rintro e w3 ⟨rfl, n, rfl⟩
   go_wp2_with (fail)
   go_ret
   exact ⟨by rw [HR.out, HO.out]; rfl, below_drewN HB2.out _⟩
 · have HO : Hid ((p.1 == q.1) = false) := by simp [Hid, ho]
   have hl : ¬ p.1.toList = q.1.toList := fun e => ho (bytes_eq.1 (by simp [e]))
   clear ho
   go_enter Tryz.func51, Tryz.ntmps51
   go_wp2_with (fail)
   go_ret
   exact ⟨by rw [HR.out, HO.out]; rfl, HB2.out⟩
theorem refSameLab_calls (l m : Lab) (v u : Value) (w : World) (hv : Lbl w l v) (hu : Lbl w m u) : Calls Tryz.prog 15 #[v, u] w fun e w' => e = .returned (.bool (sameLab l m)) ∧ Below w.heap.size w w' := by
 have eg : ∀ args w, (callFunc 51 args).run Tryz.prog w = .ok (.enter 51 args) w := enters_at Tryz.func51 (by kernel_rfl) rfl
 have HE := Hd (equalPol_calls l m v u 51 #[] w hv hu eg (fun k h1 h2 W va vb hb ha hb' => by simpa using refSamePol_calls l[k] m[k] va vb W ha hb'))
 have HR : Hid (sameLab l m = eqF samePol l m) := rfl
 generalize eqF samePol l m = b at *
 obtain ⟨p, c, rfl, _⟩ := hv
 obtain ⟨p', c', rfl, _⟩ := hu
 go_enter Tryz.func15, Tryz.ntmps15
 go_wp2_with (fail)
 refine HE.out.mono ?_
 rintro e w3 ⟨rfl, hb3⟩
 go_wp2_with (fail)
 go_ret
 exact ⟨by rw [HR.out]; rfl, hb3⟩
theorem refSame_step (x y : Ex) (va vb : Value) (w : World) (hx : ExIs w x va) (hy : ExIs w y vb)
 (ih : ∀ (k : Nat) (h1 : k < x.kids.length) (h2 : k < y.kids.length) (W : World) (v u : Value), ExIs W x.kids[k] v → ExIs W y.kids[k] u → Calls Tryz.prog 23 #[v, u] W fun e w' => e = .returned (.bool (sameE x.kids[k] y.kids[k])) ∧ Below W.heap.size W w') :
 Calls Tryz.prog 23 #[va, vb] w fun e w' => e = .returned (.bool (sameE x y)) ∧ Below w.heap.size w w' := by
 obtain ⟨vl, wa, rfl, hl, ha⟩ := hx
 obtain ⟨pl, cl, rfl, h1⟩ := hl
 obtain ⟨b, o, c, p, rfl, hmax, hp, hkids⟩ := ha.at
 have hl : Lbl w x.lab (.slice pl x.lab.length cl) := ⟨pl, cl, rfl, h1⟩
 obtain ⟨vl, wa, rfl, hl', ha'⟩ := hy
 obtain ⟨pl', cl', rfl, h1'⟩ := hl'
 obtain ⟨b', o', c', p', rfl, hmax', hp', hkids'⟩ := ha'.at
 have hl' : Lbl w y.lab (.slice pl' y.lab.length cl') := ⟨pl', cl', rfl, h1'⟩
 clear h1 h1'
 obtain ⟨W2, eW⟩ : ∃ W2, (w.alloc (.cells #[.int .i64 x.kind, .int .i64 x.at_, .int .i64 x.num, .int .i64 x.ty, .string x.name, .slice pl x.lab.length cl, .slice p x.kids.length c] 26)).alloc (.cells #[.int .i64 y.kind, .int .i64 y.at_, .int .i64 y.num, .int .i64 y.ty, .string y.name, .slice pl' y.lab.length cl', .slice p' y.kids.length c'] 26) = W2 := ⟨_, rfl⟩
 obtain ⟨z2, hb2, m0, m1⟩ := boxes2 eW
 have hB : Blk W2 w.heap.size (exC x (.slice pl x.lab.length cl) (.slice p x.kids.length c)) 26 := by rw [← eW]; exact (Blk.new _ _ _).below ((Below.refl _ _).alloc (Nat.le_refl _) _)
 have hC : Blk W2 (w.heap.size + 1) (exC y (.slice pl' y.lab.length cl') (.slice p' y.kids.length c')) 26 := by rw [← eW]; exact Blk.new2 _ _ _ _ _
 have hk := keeps_of_below hb2
 have HBL : Hid (∀ W, Below W2.heap.size W2 W → Blk W w.heap.size (exC x (.slice pl x.lab.length cl) (.slice p x.kids.length c)) 26 ∧ Blk W (w.heap.size + 1) (exC y (.slice pl' y.lab.length cl') (.slice p' y.kids.length c')) 26) := fun W hb => ⟨hB.below hb, hC.below hb⟩
 have HKD : Hid (∀ W, Below W2.heap.size W2 W → ∀ (i : Nat) (hi : i < x.kids.length), ∃ pl cl pa ca, ExIs W x.kids[i] (.agg #[.int .i64 x.kids[i].kind, .int .i64 x.kids[i].at_, .int .i64 x.kids[i].num, .int .i64 x.kids[i].ty, .string x.kids[i].name, .slice pl x.kids[i].lab.length cl, .slice pa x.kids[i].kids.length ca]) ∧
  W.cell? ⟨b, o + i * 7, none⟩ = some (.int .i64 x.kids[i].kind) ∧ W.cell? ⟨b, o + i * 7 + 1, none⟩ = some (.int .i64 x.kids[i].at_) ∧ W.cell? ⟨b, o + i * 7 + 2, none⟩ = some (.int .i64 x.kids[i].num) ∧ W.cell? ⟨b, o + i * 7 + 3, none⟩ = some (.int .i64 x.kids[i].ty) ∧
  W.cell? ⟨b, o + i * 7 + 4, none⟩ = some (.string x.kids[i].name) ∧ W.cell? ⟨b, o + i * 7 + 5, none⟩ = some (.slice pl x.kids[i].lab.length cl) ∧ W.cell? ⟨b, o + i * 7 + 6, none⟩ = some (.slice pa x.kids[i].kids.length ca)) := fun W h i hi => by
  have hk := hk.trans (keeps_of_below h)
  obtain ⟨pl, cl, pa, ca, g1, g2, g3, g4, g5, g6, g7, g8, g9⟩ := hkids i hi
  exact ⟨pl, cl, pa, ca, ⟨_, _, rfl, g1.stays hk, g2.stays hk⟩, hk.2 _ _ _ g3, hk.2 _ _ _ g4, hk.2 _ _ _ g5, hk.2 _ _ _ g6, hk.2 _ _ _ g7, hk.2 _ _ _ g8, hk.2 _ _ _ g9⟩
 have HKE : Hid (∀ W, Below W2.heap.size W2 W → ∀ (i : Nat) (hi : i < y.kids.length), ∃ pl cl pa ca, ExIs W y.kids[i] (.agg #[.int .i64 y.kids[i].kind, .int .i64 y.kids[i].at_, .int .i64 y.kids[i].num, .int .i64 y.kids[i].ty, .string y.kids[i].name, .slice pl y.kids[i].lab.length cl, .slice pa y.kids[i].kids.length ca]) ∧
  W.cell? ⟨b', o' + i * 7, none⟩ = some (.int .i64 y.kids[i].kind) ∧ W.cell? ⟨b', o' + i * 7 + 1, none⟩ = some (.int .i64 y.kids[i].at_) ∧ W.cell? ⟨b', o' + i * 7 + 2, none⟩ = some (.int .i64 y.kids[i].num) ∧ W.cell? ⟨b', o' + i * 7 + 3, none⟩ = some (.int .i64 y.kids[i].ty) ∧
  W.cell? ⟨b', o' + i * 7 + 4, none⟩ = some (.string y.kids[i].name) ∧ W.cell? ⟨b', o' + i * 7 + 5, none⟩ = some (.slice pl y.kids[i].lab.length cl) ∧ W.cell? ⟨b', o' + i * 7 + 6, none⟩ = some (.slice pa y.kids[i].kids.length ca)) := fun W h i hi => by
  have hk := hk.trans (keeps_of_below h)
  obtain ⟨pl, cl, pa, ca, g1, g2, g3, g4, g5, g6, g7, g8, g9⟩ := hkids' i hi
  exact ⟨pl, cl, pa, ca, ⟨_, _, rfl, g1.stays hk, g2.stays hk⟩, hk.2 _ _ _ g3, hk.2 _ _ _ g4, hk.2 _ _ _ g5, hk.2 _ _ _ g6, hk.2 _ _ _ g7, hk.2 _ _ _ g8, hk.2 _ _ _ g9⟩
 have HLB : Hid (∀ W, Below w.heap.size w W → Calls Tryz.prog 15 #[.slice pl x.lab.length cl, .slice pl' y.lab.length cl'] W fun e w' => e = .returned (.bool (sameLab x.lab y.lab)) ∧ Below W.heap.size W w') := fun W hb => by
  have hk3 := keeps_of_below hb
  exact refSameLab_calls x.lab y.lab _ _ W (hl.stays hk3) (hl'.stays hk3)
 have HB2 := Hd hb2
 have HP := Hd hp
 have HP' := Hd hp'
 have HIH := Hd ih
 have HR : Hid (sameE x y = ((x.kind == y.kind) && (x.num == y.num) && (x.ty == y.ty) && (x.name == y.name) && sameLab x.lab y.lab && eqF sameE x.kids y.kids)) := by
  unfold Hid
  rw [sameE_eq, sameL_eqF]
 obtain ⟨q0, q1, q2, q3, q4, q5, q6⟩ := hB.cells7
 obtain ⟨r0, r1, r2, r3, r4, r5, r6⟩ := hC.cells7
 clear hB hC hk hb2 m0 m1 z2 ha ha' hl hl' hkids hkids' hp hp' ih
 generalize x.kids = l at *
 generalize y.kids = m at *
 by_cases hlen : l.length = m.length
 · have hle : (l.length : Int) = (m.length : Int) := by omega
   have hle2 : ((l.length : Int) != (m.length : Int)) = false := by simp [hle]
   have hle3 : ((l.length : Int) == (m.length : Int)) = true := by simp [hle]
   clear hle
   have HLEN := Hd hlen
   clear hlen
   go_enter Tryz.func23, Tryz.ntmps23
   go_wp2_with (fail)
   clear q0 q1 q2 q3 q4 q5 q6 r0 r1 r2 r3 r4 r5 r6 eW
   go_loopw [5, 16] (fun _ i ws => ∃ (k : Nat) (wo : World), k ≤ l.length ∧ i = .int .i64 k ∧ wo = ws ∧ Hid (Below W2.heap.size W2 wo) ∧ Hid (∀ j (h1 : j < l.length) (h2 : j < m.length), j < k → sameE l[j] m[j] = true)) (fun _ i _ => l.length - (intOf i).toNat)
   case atStart => exact ⟨0, _, Nat.zero_le _, rfl, rfl, Below.refl _ _, fun j _ _ h => absurd h (by omega)⟩
   case round =>
    obtain ⟨k, wo, hk, rfl, rfl, HB, HA⟩ := hrel
    by_cases hlt : k < l.length
    · have hlt2 : k < m.length := by have := HLEN.out; omega
      have hki : (k : Int) < (l.length : Int) := by omega
      have hki2 : (k : Int) < (m.length : Int) := by omega
      have hk0 : (0 : Int) ≤ (k : Int) := by omega
      have hkm : (k : Int) + 1 ≤ 9223372036854775807 := by omega
      obtain rfl := HP.out (by omega)
      obtain rfl := HP'.out (by omega)
      have hbd : Below wo.heap.size wo wo.drew := (Below.refl _ _).drew
      obtain ⟨W3, e3⟩ : ∃ W3, wo.drew = W3 := ⟨_, rfl⟩
      rw [e3] at hbd
      have HB3 := Hd (HB.out.trans (hbd.mono HB.out.size))
      obtain ⟨hB3, hC3⟩ := HBL.out W3 HB3.out
      obtain ⟨q0, q1, q2, q3, q4, q5, q6⟩ := hB3.cells7
      obtain ⟨r0, r1, r2, r3, r4, r5, r6⟩ := hC3.cells7
      obtain ⟨pl1, cl1, pa1, ca1, hy1, g0, g1, g2, g3, g4, g5, g6⟩ := HKD.out W3 HB3.out k hlt
      obtain ⟨pl2, cl2, pa2, ca2, hy2, f0, f1, f2, f3, f4, f5, f6⟩ := HKE.out W3 HB3.out k hlt2
      have HC := Hd (HIH.out k hlt hlt2 W3 _ _ hy1 hy2)
      have HAT : Hid (sameE l[k] m[k] = false → eqF sameE l m = false) := fun h => eqF_at k hlt hlt2 h
      have HAN : Hid (sameE l[k] m[k] = true → ∀ j (h1 : j < l.length) (h2 : j < m.length), j < k + 1 → sameE l[j] m[j] = true) := fun h j h1 h2 h3 => by
       rcases Nat.lt_or_ge j k with h4 | h4
       · exact HA.out j h1 h2 h4
       · obtain rfl : j = k := by omega
         exact h
      have HLT := Hd hlt
      generalize l[k] = z1 at *
      generalize m[k] = z2 at *
      have HBW := Hd (HB2.out.trans (HB3.out.mono HB2.out.size))
      clear hlt hlt2 hk hbd hy1 hy2 hB3 hC3
      cases hs : sameE z1 z2 with
      | true =>
        have HN := Hd (HAN.out hs)
        rw [hs] at HC
        clear hs HAT HAN
        go_wp2_with (fail)
        refine wp_region_calm_tail 10 (by kernel_rfl) (by kernel_rfl) ?_
        rw [e3]
        simp only [List.take_succ_cons, List.take_zero, List.drop_succ_cons, List.drop_zero]
        repeat go_big_quiet_step (fail)
        refine wpQuiet_nil ?_
        go_wp2_with (fail)
        refine HC.out.mono ?_
        rintro e w4 ⟨rfl, hb4⟩
        have HB4 := Hd (HB3.out.trans (hb4.mono HB3.out.size))
        clear hb4
        go_wp2_with (fail)
        go_roundw
        case rel => exact ⟨k + 1, _, by have h1 := HLT.out; omega, by go_num, rfl, HB4.out, HN.out⟩
        case measure => have h1 := HLT.out; simp [intOf]; omega
      | false =>
        have HN := Hd (HAT.out hs)
        rw [hs] at HC
        clear hs HAT HAN
        go_wp2_with (fail)
        refine wp_region_calm_tail 10 (by kernel_rfl) (by kernel_rfl) ?_
        rw [e3]
        simp only [List.take_succ_cons, List.take_zero, List.drop_succ_cons, List.drop_zero]
        repeat go_big_quiet_step (fail)
        refine wpQuiet_nil ?_
        go_wp2_with (fail)
        refine HC.out.mono ?_
        rintro e w4 ⟨rfl, hb4⟩
        have HB4 := Hd (HBW.out.trans (hb4.mono HBW.out.size))
        clear hb4
        go_wp2_with (fail)
        go_ret
        exact ⟨by rw [HR.out, HN.out]; simp, HB4.out⟩
    · have hki : ¬ (k : Int) < (l.length : Int) := by omega
      have HN : Hid (eqF sameE l m = true) := eqF_all HLEN.out fun j h1 h2 => HA.out j h1 h2 (by omega)
      obtain ⟨hB3, hC3⟩ := HBL.out wo HB.out
      obtain ⟨q0, q1, q2, q3, q4, q5, q6⟩ := hB3.cells7
      obtain ⟨r0, r1, r2, r3, r4, r5, r6⟩ := hC3.cells7
      obtain ⟨u0, u1, u2, u3, u4, u5, u6⟩ := hB3.fz7
      obtain ⟨t0, t1, t2, t3, t4, t5, t6⟩ := (hC3.other (b' := w.heap.size) (by omega) 6 (.slice none 0 0)).fz7
      obtain ⟨W4, e4⟩ : ∃ W4, (wo.setCell ⟨w.heap.size, 6, none⟩ (.slice none 0 0)).setCell ⟨w.heap.size + 1, 6, none⟩ (.slice none 0 0) = W4 := ⟨_, rfl⟩
      have hB4 : Blk W4 w.heap.size (exC x (.slice pl x.lab.length cl) (.slice none 0 0)) 26 := by rw [← e4]; exact (hB3.set 6 (.slice none 0 0)).other (by omega) _ _
      have hC4 : Blk W4 (w.heap.size + 1) (exC y (.slice pl' y.lab.length cl') (.slice none 0 0)) 26 := by rw [← e4]; exact (hC3.other (by omega) _ _).set 6 (.slice none 0 0)
      have hb4 : Below w.heap.size w W4 := by rw [← e4]; exact ((HB2.out.trans (HB.out.mono HB2.out.size)).setCell (Nat.le_refl _) _).setCell (Nat.le_succ _) _
      have HB4 := Hd hb4
      have HL4 := Hd (HLB.out W4 hb4)
      obtain ⟨a0, a1, a2, a3, a4, a5, a6⟩ := hB4.cells7
      obtain ⟨v0, v1, v2, v3, v4, v5, v6⟩ := hC4.cells7
      clear hB3 hC3 hB4 hC4 hb4
      generalize sameLab x.lab y.lab = b1 at *
      by_cases c0 : x.kind = y.kind
      · have C0 : Hid ((x.kind == y.kind) = true) := by simp [Hid, c0]
        have d0 : (x.kind == y.kind) = true := C0
        clear c0
        by_cases c1 : x.num = y.num
        · have C1 : Hid ((x.num == y.num) = true) := by simp [Hid, c1]
          have d1 : (x.num == y.num) = true := C1
          clear c1
          by_cases c2 : x.ty = y.ty
          · have C2 : Hid ((x.ty == y.ty) = true) := by simp [Hid, c2]
            have d2 : (x.ty == y.ty) = true := C2
            clear c2
            by_cases c3 : x.name = y.name
            · have C3 : Hid ((x.name == y.name) = true) := by simp [Hid, c3]
              have hs : x.name.toList = y.name.toList := by rw [c3]
              clear c3
              go_wp2_with (fail)
              refine HL4.out.mono ?_
              rintro e w5 ⟨rfl, hb5⟩
              have HB5 := Hd (HB4.out.trans (hb5.mono HB4.out.size))
              clear hb5
              go_wp2_with (fail)
              go_ret
              exact ⟨by rw [HR.out, C0.out, C1.out, C2.out, C3.out, HN.out]; simp, HB5.out⟩
            · have C3 : Hid ((x.name == y.name) = false) := by simp [Hid, c3]
              have hs : ¬ x.name.toList = y.name.toList := fun e => c3 (bytes_eq.1 (by simp [e]))
              clear c3
              go_wp2_with (fail)
              go_ret
              exact ⟨by rw [HR.out, C0.out, C1.out, C2.out, C3.out]; rfl, HB4.out⟩
          · have C2 : Hid ((x.ty == y.ty) = false) := by simp [Hid, c2]
            have d2 : (x.ty == y.ty) = false := C2
            go_wp2_with (fail)
            go_ret
            exact ⟨by rw [HR.out, C0.out, C1.out, C2.out]; rfl, HB4.out⟩
        · have C1 : Hid ((x.num == y.num) = false) := by simp [Hid, c1]
          have d1 : (x.num == y.num) = false := C1
          go_wp2_with (fail)
          go_ret
          exact ⟨by rw [HR.out, C0.out, C1.out]; rfl, HB4.out⟩
      · have C0 : Hid ((x.kind == y.kind) = false) := by simp [Hid, c0]
        have d0 : (x.kind == y.kind) = false := C0
        go_wp2_with (fail)
        go_ret
        exact ⟨by rw [HR.out, C0.out]; rfl, HB4.out⟩
 · have hle : ¬ (l.length : Int) = (m.length : Int) := by omega
   have hle2 : ((l.length : Int) != (m.length : Int)) = true := by simp [hle]
   have hle3 : ((l.length : Int) == (m.length : Int)) = false := by simp [hle]
   have HN : Hid (eqF sameE l m = false) := eqF_len hlen
   clear hlen
   go_enter Tryz.func23, Tryz.ntmps23
   go_wp2_with (fail)
   go_ret
   exact ⟨by rw [HR.out, HN.out]; simp, HB2.out⟩
end
end Go.Proofs.YtmepcmnpmhhiiaaGreatDoor
