/- Texts of the proof that ParseBrackets holds, part 12; no conditions. -/
import Derived.Test.YtminbehofnnhmaaGreatDoorPB08
import Derived.Test.YtminbehofnnhmaaGreatDoorPB02
namespace Go.Proofs.YtminbehofnnhmaaGreatDoor
set_option linter.unusedVariables false
set_option linter.unusedSimpArgs false
set_option maxHeartbeats 8000000
set_option maxRecDepth 100000
section
open Go.RowKit Go.Maps
theorem refSamePol_calls (p q : Pol) (va vb : Value) (w : World) (hp : PolIs w p va) (hq : PolIs w q vb) : Calls Tryz.prog 65 #[va, vb] w fun e w' => e = .returned (.bool (samePol p q)) ∧ Below w.heap.size w w' := by
 obtain ⟨vr, rfl, hvr⟩ := hp
 obtain ⟨us, rfl, hus⟩ := hq
 obtain ⟨pr, cr, rfl, h1⟩ := hvr
 obtain ⟨ps, cs, rfl, h2⟩ := hus
 have hvr : Strs w p.2 (.slice pr p.2.length cr) := ⟨pr, cr, rfl, h1⟩
 have hus : Strs w q.2 (.slice ps q.2.length cs) := ⟨ps, cs, rfl, h2⟩
 obtain ⟨W2, eW⟩ : ∃ W2, (w.alloc (.cells #[.string p.1, .slice pr p.2.length cr] 92)).alloc (.cells #[.string q.1, .slice ps q.2.length cs] 92) = W2 := ⟨_, rfl⟩
 obtain ⟨z2, hb2, m0, m1⟩ := boxes2 eW
 have d0 : W2.cell? ⟨w.heap.size, 0, none⟩ = some (.string p.1) := m0 0
 have d1 : W2.cell? ⟨w.heap.size, 1, none⟩ = some (.slice pr p.2.length cr) := m0 1
 have f0 : W2.cell? ⟨w.heap.size + 1, 0, none⟩ = some (.string q.1) := m1 0
 have f1 : W2.cell? ⟨w.heap.size + 1, 1, none⟩ = some (.slice ps q.2.length cs) := m1 1
 have HE := Hd (equalS_calls p.2 q.2 _ _ W2 (hvr.stays (keeps_of_below hb2)) (hus.stays (keeps_of_below hb2)))
 have HB2 := Hd hb2
 have HR : Hid (samePol p q = ((p.1 == q.1) && (p.2 == q.2))) := rfl
 generalize (p.2 == q.2) = b2 at *
 clear hb2 m0 m1 z2 hvr hus h1 h2
 by_cases ho : p.1 = q.1
 · have HO : Hid ((p.1 == q.1) = true) := by simp [Hid, ho]
   have hl : p.1.toList = q.1.toList := by rw [ho]
   clear ho
   go_enter Tryz.func65, Tryz.ntmps65
   go_wp2_with (fail)
   refine HE.out.mono ?_
   rintro e w3 ⟨rfl, n, rfl⟩
   go_wp2_with (fail)
   go_ret
   exact ⟨by rw [HR.out, HO.out]; rfl, below_drewN HB2.out _⟩
 · have HO : Hid ((p.1 == q.1) = false) := by simp [Hid, ho]
   have hl : ¬ p.1.toList = q.1.toList := fun e => ho (bytes_eq.1 (by simp [e]))
   clear ho
   go_enter Tryz.func65, Tryz.ntmps65
   go_wp2_with (fail)
   go_ret
   exact ⟨by rw [HR.out, HO.out]; rfl, HB2.out⟩
theorem refSameLab_calls (l m : Lab) (v u : Value) (w : World) (hv : Lbl w l v) (hu : Lbl w m u) : Calls Tryz.prog 19 #[v, u] w fun e w' => e = .returned (.bool (sameLab l m)) ∧ Below w.heap.size w w' := by
 have eg : ∀ args w, (callFunc 65 args).run Tryz.prog w = .ok (.enter 65 args) w := enters_at Tryz.func65 (by kernel_rfl) rfl
 have HE := Hd (equalPol_calls l m v u 65 #[] w hv hu eg (fun k h1 h2 W va vb hb ha hb' => by simpa using refSamePol_calls l[k] m[k] va vb W ha hb'))
 have HR : Hid (sameLab l m = eqF samePol l m) := rfl
 generalize eqF samePol l m = b at *
 obtain ⟨p, c, rfl, _⟩ := hv
 obtain ⟨p', c', rfl, _⟩ := hu
 go_enter Tryz.func19, Tryz.ntmps19
 go_wp2_with (fail)
 refine HE.out.mono ?_
 rintro e w3 ⟨rfl, hb3⟩
 go_wp2_with (fail)
 go_ret
 exact ⟨by rw [HR.out]; rfl, hb3⟩
end
end Go.Proofs.YtminbehofnnhmaaGreatDoor
