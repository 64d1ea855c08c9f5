/- Texts of the proof that ParseBrackets holds, part 8; no conditions. -/
import Derived.Test.YtminbehofnnhmaaGreatDoorPB07
import Derived.Defers
import Derived.Test.YtminbehofnnhmaaGreatDoorPB06
import Derived.Test.YtminbehofnnhmaaGreatDoorPB02
import Derived.Test.YtminbehofnnhmaaGreatDoorPB00
namespace Go.Proofs.YtminbehofnnhmaaGreatDoor
set_option linter.unusedVariables false
set_option linter.unusedSimpArgs false
set_option maxHeartbeats 8000000
set_option maxRecDepth 100000
section
open Go.RowKit Go.Maps
theorem expr_calls (hlev : LevelC) {B : Nat} {T : List Tok} {E : Int} {tv : Value} {dp ns : Nat} {prim : Nat → Rs Ex} (hm : Mono prim) (hp : ReadsEx B T E tv dp ns 167 #[.pointer (some ⟨B, 0, none⟩)] prim) :
 ∀ (j n : Nat), n + j = 6 → ReadsEx B T E tv dp ns 69 #[.pointer (some ⟨B, 0, none⟩), .int .i64 n] (exprL T prim j) := by
 intro j
 induction j with
 | zero =>
   intro n hn W k hr
   obtain rfl : n = 6 := by omega
   exact expr_six hp hr
 | succ j ih =>
   intro n hn W k hr
   have h1 := ih (n + 1) (by omega)
   have e1 : ((n + 1 : Nat) : Int) = (n : Int) + 1 := by omega
   rw [e1] at h1
   have h2 := expr_step hlev (exprL_mono hm j) (by omega : n < 6) h1 hr
   have e2 : (5 - (j : Int)) = (n : Int) := by omega
   unfold exprL
   rw [e2]
   exact h2
theorem expr_one (hlev : LevelC) {B : Nat} {T : List Tok} {E : Int} {tv : Value} {dp ns : Nat} {prim : Nat → Rs Ex} (hm : Mono prim) (hp : ReadsEx B T E tv dp ns 167 #[.pointer (some ⟨B, 0, none⟩)] prim) :
 ReadsEx B T E tv dp ns 69 #[.pointer (some ⟨B, 0, none⟩), .int .i64 1] (exprL T prim 5) := expr_calls hlev hm hp 5 1 rfl
theorem down_calls (B gb : Nat) (b : Int) (u : FrameMode) (w : World) (hg : w.cell? ⟨gb, 0, none⟩ = some (.pointer (some ⟨B, 0, none⟩))) (hc : w.cell? ⟨B, 4, none⟩ = some (.int .i64 b)) (hf : w.frozen? ⟨B, 4, none⟩ = false) :
 CallsD Tryz.prog 246 #[.pointer (some ⟨gb, 0, none⟩)] u w fun e u' w' => u' = u ∧ (e = .returned (.tuple #[]) ∧ w' = w.setCell ⟨B, 4, none⟩ (.int .i64 (IntKind.i64.wrap (b - 1)))) := by
 generalize hq : IntKind.i64.wrap (b - 1) = q
 go_enter_d Tryz.func246, Tryz.ntmps246
 go_wp2_with (fail)
 go_end0
 exact ⟨rfl, rfl⟩
structure PS (w W : World) (n3 B : Nat) (T : List Tok) (E : Int) (tv : Value) (dp ns : Nat) (t : Tok) (k : Nat) : Prop where
 rdr : Rdr W B T E tv k dp (ns + 1)
 aside : Aside1 B w W
 ptr : Blk W w.heap.size [.pointer (some ⟨B, 0, none⟩)] 102
 res : Blk W (w.heap.size + 1) zeroC 26
 tok : Blk W n3 [.int .i64 t.1, .int .i64 t.2.1, .string t.2.2] 183
 old : w.heap.size + 1 < n3
section
variable {w W W' : World} {n3 B : Nat} {T : List Tok} {E : Int} {tv : Value} {dp ns : Nat} {t : Tok} {k k' : Nat}
theorem PS.step (h : PS w W n3 B T E tv dp ns t k) (hB : B < w.heap.size) (ha : Aside1 B W W') (hr : Rdr W' B T E tv k' dp (ns + 1)) : PS w W' n3 B T E tv dp ns t k' :=
 ⟨hr, h.aside.trans ha, h.ptr.aside ha (by omega), h.res.aside ha (by omega), h.tok.aside ha (by have := h.old; omega), h.old⟩
theorem PS.below (h : PS w W n3 B T E tv dp ns t k) (hB : B < w.heap.size) (hb : Below W.heap.size W W') : PS w W' n3 B T E tv dp ns t k := h.step hB (aside_below hb) (h.rdr.below hb)
theorem PS.p0 (h : PS w W n3 B T E tv dp ns t k) : W.cell? ⟨w.heap.size, 0, none⟩ = some (.pointer (some ⟨B, 0, none⟩)) := h.ptr.cell 0
theorem PS.t0 (h : PS w W n3 B T E tv dp ns t k) : W.cell? ⟨n3, 0, none⟩ = some (.int .i64 t.1) := h.tok.cell 0
theorem PS.t1 (h : PS w W n3 B T E tv dp ns t k) : W.cell? ⟨n3, 1, none⟩ = some (.int .i64 t.2.1) := h.tok.cell 1
theorem PS.t2 (h : PS w W n3 B T E tv dp ns t k) : W.cell? ⟨n3, 2, none⟩ = some (.string t.2.2) := h.tok.cell 2
theorem Blk.new2 (w : World) (A cs : List Value) (ta t : TypeId) : Blk ((w.alloc (.cells A.toArray ta)).alloc (.cells cs.toArray t)) (w.heap.size + 1) cs t := by
 have := Blk.new (w.alloc (.cells A.toArray ta)) cs t
 have e : (w.alloc (.cells A.toArray ta)).heap.size = w.heap.size + 1 := by simp
 rw [e] at this
 exact this
theorem prim_ret {k0 dp0 ns0 : Nat} {tmps : Array Value} {x : Ex} {a b c d e f g : Value} (ht : tmps[2]? = some (.pointer (some ⟨w.heap.size + 1, 0, none⟩))) (h0 : Rdr w B T E tv k0 dp0 ns0) (hA : Aside1 B w W) (hr : Rdr W B T E tv k dp (ns + 1))
 (hP : Blk W w.heap.size [.pointer (some ⟨B, 0, none⟩)] 102) (hE : Blk W (w.heap.size + 1) [a, b, c, d, e, f, g] 26) (hx : ExIs (since (w.heap.size + 2) W) x (.agg #[a, b, c, d, e, f, g])) (hns : ns < 12) :
 Leaves Tryz.prog Tryz.f167 tmps (Does w B T E tv dp ns ExIs (.ok x k)) [{ target := .fn (.func 246) #[.pointer (some ⟨w.heap.size, 0, none⟩)], args := #[] }] .returning W := by
 have hB := h0.lt
 refine leaves_cons (f := 246) (args := #[.pointer (some ⟨w.heap.size, 0, none⟩)]) (by simp) (by simp [go_sem]) ?_
 refine (down_calls B w.heap.size ((ns + 1 : Nat) : Int) _ W (hP.cell 0) hr.c4 (hr.fz 4)).mono ?_
 rintro e u' w'' ⟨rfl, rfl, rfl⟩
 have hwr : IntKind.i64.wrap (((ns + 1 : Nat) : Int) - 1) = (ns : Int) := by
  rw [show (((ns + 1 : Nat) : Int) - 1) = (ns : Int) from by omega]
  exact IntWalk.i64_in _ ⟨by omega, by omega⟩
 rw [hwr]
 have hA9 := hA.trans (aside_set (B := B) (w := W) 4 (.int .i64 (ns : Int)))
 have hE9 : Blk (W.setCell ⟨B, 4, none⟩ (.int .i64 (ns : Int))) (w.heap.size + 1) [a, b, c, d, e, f, g] 26 := hE.other (by omega) _ _
 obtain ⟨q0, q1, q2, q3, q4, q5, q6⟩ := hE9.cells7
 have hD : Does w B T E tv dp ns ExIs (.ok x k) (.returned (.agg #[a, b, c, d, e, f, g])) (W.setCell ⟨B, 4, none⟩ (.int .i64 (ns : Int))) :=
  ⟨hA9, _, rfl, hr.setN ns, hx.stays ((since_set _ _ _ (by omega)).trans (since_mono _ (by omega)))⟩
 refine ⟨.agg #[a, b, c, d, e, f, g], ?_, hD⟩
 simp [results, Tryz.results167, go_sem, ht, q0, q1, q2, q3, q4, q5, q6]
theorem prim_bad {tmps : Array Value} {cd at_ : Int} (hB : B < w.heap.size) (hA : Aside1 B w W) (hl : Left W B E tv)
 (hP : W.cell? ⟨w.heap.size, 0, none⟩ = some (.pointer (some ⟨B, 0, none⟩))) :
 Leaves Tryz.prog Tryz.f167 tmps (Does w B T E tv dp ns ExIs (.bad cd at_)) [{ target := .fn (.func 246) #[.pointer (some ⟨w.heap.size, 0, none⟩)], args := #[] }] (.panicking [{ v := stopV cd at_, recovered := false }]) W := by
 obtain ⟨k1, a1, b1, hl⟩ := hl
 refine leaves_cons (f := 246) (args := #[.pointer (some ⟨w.heap.size, 0, none⟩)]) (by simp) (by simp [go_sem]) ?_
 refine (down_calls B w.heap.size b1 _ W hP (by simp [World.cell?, hl]) (by simp [World.frozen?, hl])).mono ?_
 rintro e u' w'' ⟨rfl, rfl, rfl⟩
 exact ⟨hA.trans (aside_set _ _), rfl, k1, a1, _, by simp [World.setCell, Array.getElem?_modify, hl]; rfl⟩
def PanicAs (D : List Deferred) (R : List PanicEntry → World → Prop) (Q : Exit → Act → World → Prop) : Exit → Act → World → Prop
 | .panic c, a, w => a.defers = D ∧ R c w
 | e, a, w => Q e a w
theorem wp_region_panicAs {P : Program} {id : Nat} {ops : Array Oper} {b : Bool} {Q : Exit → Act → World → Prop} {a : Act} {w : World} (D : List Deferred) (R : List PanicEntry → World → Prop)
 (hi : ∀ c a w, a.defers = D → R c w → Q (.panic c) a w) (h : (Code.region id ops b).wp P (PanicAs D R Q) a w) : (Code.region id ops b).wp P Q a w :=
 Code.wp_mono (fun e a w h => by
  cases e with
  | panic c => exact hi c a w h.1 h.2
  | _ => exact h) h
theorem exs_one {W : World} {x : Ex} {vl va : Value} {b m : Nat} {t : TypeId} (hx : ExIs (since m W) x (.agg #[.int .i64 x.kind, .int .i64 x.at_, .int .i64 x.num, .int .i64 x.ty, .string x.name, vl, va])) (hb : Blk W b (exC x vl va) t) (hm : m ≤ b) : Exs (since m W) [x] (.slice (some ⟨b, 0, none⟩) 1 1) := by
 obtain ⟨vl', va', e, h1, h2⟩ := hx
 obtain ⟨rfl, rfl⟩ : vl = vl' ∧ va = va' := by simp at e; exact e
 refine ⟨_, 1, rfl, Nat.le_refl _, by unfold maxLen; decide, .inr ⟨b, 0, rfl, fun i hi => ?_⟩⟩
 have e0 : i = 0 := by have : [x].length = 1 := rfl; have hi' : i < [x].length := hi; omega
 subst e0
 refine ⟨exC x vl va, exC_of h1 h2, rfl, fun j u hu => ?_⟩
 have hp : decide (b < m) = false := decide_eq_false (by omega)
 refine (hide_cell (fun b => decide (b < m)) W b _).trans ?_
 simp only [hp, Bool.false_eq_true, if_false]
 have := hb.cell j
 rw [hu] at this
 simpa using this
theorem exIs_leaf (W : World) (kind at_ n ty : Int) (name : Txt) : ExIs W (.mk kind at_ n ty name [] []) (.agg #[.int .i64 kind, .int .i64 at_, .int .i64 n, .int .i64 ty, .string name, .slice none 0 0, .slice none 0 0]) :=
 ⟨_, _, rfl, ⟨none, 0, rfl, Nat.le_refl _, by unfold maxLen; decide, .inl rfl⟩, ⟨none, 0, rfl, Nat.le_refl _, by unfold maxLen; decide, .inl rfl⟩⟩
theorem PS.ret (h : PS w W n3 B T E tv dp ns t k) (hns : ns < 12) {k0 dp0 ns0 : Nat} {tmps : Array Value} {x : Ex} {a b c d e f g : Value} (h0 : Rdr w B T E tv k0 dp0 ns0) (ht : tmps[2]? = some (.pointer (some ⟨w.heap.size + 1, 0, none⟩)))
 (hx : ExIs (since (w.heap.size + 2) W) x (.agg #[a, b, c, d, e, f, g])) :
 Leaves Tryz.prog Tryz.f167 tmps (Does w B T E tv dp ns ExIs (.ok x k)) [{ target := .fn (.func 246) #[.pointer (some ⟨w.heap.size, 0, none⟩)], args := #[] }] .returning (sev W (w.heap.size + 1) a b c d e f g) := by
 have hB := h0.lt
 have hA : Aside1 B w (sev W (w.heap.size + 1) a b c d e f g) := aside_sev h.aside (by omega)
 exact prim_ret ht h0 hA (h0.via hA (sev_block (by omega)) h.rdr) ((sev_block (by omega)).trans h.ptr) (Blk.sev h.res) (hx.stays (since_sev (by omega))) hns
theorem sev_keeps {a b c d e f g : Value} (h : PS w W n3 B T E tv dp ns t k) : (sev W (w.heap.size + 1) a b c d e f g).cell? ⟨w.heap.size, 0, none⟩ = some (.pointer (some ⟨B, 0, none⟩)) ∧ (sev W (w.heap.size + 1) a b c d e f g).cell? ⟨n3, 1, none⟩ = some (.int .i64 t.2.1) ∧ (sev W (w.heap.size + 1) a b c d e f g).cell? ⟨n3, 2, none⟩ = some (.string t.2.2) := by
 have h1 : Blk (sev W (w.heap.size + 1) a b c d e f g) w.heap.size [.pointer (some ⟨B, 0, none⟩)] 102 := (sev_block (by omega)).trans h.ptr
 have h2 : Blk (sev W (w.heap.size + 1) a b c d e f g) n3 [.int .i64 t.1, .int .i64 t.2.1, .string t.2.2] 183 := (sev_block (by have := h.old; omega)).trans h.tok
 exact ⟨h1.cell 0, h2.cell 1, h2.cell 2⟩
theorem PS.bad (h : PS w W n3 B T E tv dp ns t k) (hB : B < w.heap.size) {tmps : Array Value} {cd at_ : Int} (ha : Aside1 B W W') (hl : Left W' B E tv) :
 Leaves Tryz.prog Tryz.f167 tmps (Does w B T E tv dp ns ExIs (.bad cd at_)) [{ target := .fn (.func 246) #[.pointer (some ⟨w.heap.size, 0, none⟩)], args := #[] }] (.panicking [{ v := stopV cd at_, recovered := false }]) W' :=
 prim_bad hB (h.aside.trans ha) hl ((h.ptr.aside ha (by omega)).cell 0)
end
end
section
open Go.RowKit Go.Maps
theorem Lbl.at {W : World} {l : Lab} {v : Value} (h : Lbl W l v) : ∃ (b o c : Nat) (p : Option Addr), v = .slice p l.length c ∧ l.length ≤ 9223372036854775807 ∧ (0 < l.length → p = some ⟨b, o, none⟩) ∧
 ∀ (i : Nat) (hi : i < l.length), ∃ pr cr, Strs W l[i].2 (.slice pr l[i].2.length cr) ∧ W.cell? ⟨b, o + i * 2, none⟩ = some (.string l[i].1) ∧ W.cell? ⟨b, o + i * 2 + 1, none⟩ = some (.slice pr l[i].2.length cr) := by
 obtain ⟨b, o, c, p, e, h1, h2, h3, h4⟩ := h.cells
 refine ⟨b, o, c, p, e, by omega, h3, fun i hi => ?_⟩
 obtain ⟨u, g1, g2, g3⟩ := h4 i hi
 obtain ⟨pr, cr, rfl, g4⟩ := g3
 exact ⟨pr, cr, ⟨pr, cr, rfl, g4⟩, g1, g2⟩
def TellsEqPol (w : World) (l m : Lab) (fn : FuncId) (cap : Array Value) : Prop := ∀ (k : Nat) (h1 : k < l.length) (h2 : k < m.length) (W : World) (va vb : Value), Below w.heap.size w W → PolIs W l[k] va → PolIs W m[k] vb → Calls Tryz.prog fn (#[va, vb] ++ cap) W fun e w' => e = .returned (.bool (samePol l[k] m[k])) ∧ Below W.heap.size W w'
theorem equalPol_calls (l m : Lab) (v u : Value) (fn : FuncId) (cap : Array Value) (w : World) (hv : Lbl w l v) (hu : Lbl w m u) (eg : ∀ args w, (callFunc fn args).run Tryz.prog w = .ok (.enter fn args) w) (hq : TellsEqPol w l m fn cap) :
 Calls Tryz.prog 64 #[v, u, .func (.func fn) #[] cap] w fun e w' => e = .returned (.bool (eqF samePol l m)) ∧ Below w.heap.size w w' := by
 obtain ⟨b, o, c, p, rfl, hmax, hp, hl⟩ := hv.at
 obtain ⟨b', o', c', p', rfl, hmax', hp', hl'⟩ := hu.at
 have HL := Hd hl
 have HL' := Hd hl'
 have HP := Hd hp
 have HP' := Hd hp'
 have HQ := Hd hq
 clear hl hl' hp hp' hq hv hu
 by_cases hlen : l.length = m.length
 · have hle : (l.length : Int) = (m.length : Int) := by omega
   have hle2 : ((l.length : Int) != (m.length : Int)) = false := by simp [hle]
   have hle3 : ((l.length : Int) == (m.length : Int)) = true := by simp [hle]
   clear hle
   have HLEN := Hd hlen
   clear hlen
   go_enter Tryz.func64, Tryz.ntmps64
   go_wp2_with (fail)
   go_loopw [7, 8, 9, 17] (fun _ _ _ i ws => ∃ (k : Nat) (wo : World), k ≤ l.length ∧ i = .int .i64 k ∧ wo = ws ∧ Hid (Below w.heap.size w wo) ∧ Hid (∀ j (h1 : j < l.length) (h2 : j < m.length), j < k → samePol l[j] m[j] = true)) (fun _ _ _ i _ => l.length - (intOf i).toNat)
   case atStart => exact ⟨0, _, Nat.zero_le _, rfl, rfl, Below.refl _ _, fun j _ _ h => absurd h (by omega)⟩
   case round =>
    obtain ⟨k, wo, hk, rfl, rfl, HB, HA⟩ := hrel
    by_cases hlt : k < l.length
    · have hlt2 : k < m.length := by have := HLEN.out; omega
      obtain ⟨pr, cr, s1, z0, z1⟩ := HL.out k hlt
      obtain ⟨prb, crb, s1b, z0b, z1b⟩ := HL'.out k hlt2
      have hbk := keeps_of_below HB.out
      have q0 := hbk.2 _ _ _ z0
      have r0 := hbk.2 _ _ _ z0b
      have q1 := hbk.2 _ _ _ z1
      have r1 := hbk.2 _ _ _ z1b
      obtain rfl := HP.out (by omega)
      obtain rfl := HP'.out (by omega)
      have hki : (k : Int) < (l.length : Int) := by omega
      have hki2 : (k : Int) < (m.length : Int) := by omega
      have hk0 : (0 : Int) ≤ (k : Int) := by omega
      have hkm : (k : Int) + 1 ≤ 9223372036854775807 := by omega
      have HAT : Hid (samePol l[k] m[k] = false → eqF samePol l m = false) := fun h => eqF_at k hlt hlt2 h
      have HAN : Hid (samePol l[k] m[k] = true → ∀ j (h1 : j < l.length) (h2 : j < m.length), j < k + 1 → samePol l[j] m[j] = true) := fun h j h1 h2 h3 => by
       rcases Nat.lt_or_ge j k with h4 | h4
       · exact HA.out j h1 h2 h4
       · obtain rfl : j = k := by omega
         exact h
      have HQK : Hid (∀ (W : World) (va vb : Value), Below w.heap.size w W → PolIs W l[k] va → PolIs W m[k] vb → Calls Tryz.prog fn (#[va, vb] ++ cap) W fun e w' => e = .returned (.bool (samePol l[k] m[k])) ∧ Below W.heap.size W w') := HQ.out k hlt hlt2
      have HLT := Hd hlt
      generalize l[k] = x at *
      generalize m[k] = y at *
      obtain ⟨Wa, eWa⟩ : ∃ Wa, wo.alloc (.cells #[.string x.1, .slice pr x.2.length cr] 92) = Wa := ⟨_, rfl⟩
      have hba : Below wo.heap.size wo Wa := by rw [← eWa]; exact (Below.refl _ _).alloc (Nat.le_refl _) _
      have hXa : Blk Wa wo.heap.size [.string x.1, .slice pr x.2.length cr] 92 := by rw [← eWa]; exact Blk.new _ _ _
      obtain ⟨W2, eW⟩ : ∃ W2, Wa.alloc (.cells #[.string y.1, .slice prb y.2.length crb] 92) = W2 := ⟨_, rfl⟩
      have hbb : Below Wa.heap.size Wa W2 := by rw [← eW]; exact (Below.refl _ _).alloc (Nat.le_refl _) _
      have hb2 : Below wo.heap.size wo W2 := hba.trans (hbb.mono hba.size)
      have hX := hXa.below hbb
      have hY : Blk W2 Wa.heap.size [.string y.1, .slice prb y.2.length crb] 92 := by rw [← eW]; exact Blk.new _ _ _
      have hka := keeps_of_below hba
      replace r0 := hka.2 _ _ _ r0
      replace r1 := hka.2 _ _ _ r1
      have d0 := hX.cell 0
      have f0 := hY.cell 0
      have d1 := hX.cell 1
      have f1 := hY.cell 1
      simp only [List.getElem?_cons_zero, List.getElem?_cons_succ] at d0 f0 d1 f1
      have hk2 := hbk.trans (keeps_of_below hb2)
      have HBW := Hd (HB.out.trans (hb2.mono HB.out.size))
      have HC := Hd (HQK.out W2 (.agg #[.string x.1, .slice pr x.2.length cr]) (.agg #[.string y.1, .slice prb y.2.length crb]) HBW.out ⟨_, rfl, s1.stays hk2⟩ ⟨_, rfl, s1b.stays hk2⟩)
      clear z0 z0b z1 z1b s1 s1b hbk hk2 hb2 hX hY hba hbb hXa hka hlt hlt2 hk HQK
      cases hs : samePol x y with
      | true =>
        have HN := Hd (HAN.out hs)
        rw [hs] at HC
        clear hs HAT HAN
        go_wp2_with (fail)
        refine HC.out.mono ?_
        rintro e w3 ⟨rfl, hb3⟩
        have HB3 := Hd (HBW.out.trans (hb3.mono HBW.out.size))
        clear hb3
        go_wp2_with (fail)
        go_roundw
        case rel => exact ⟨k + 1, _, by have h1 := HLT.out; omega, by go_num, rfl, HB3.out, HN.out⟩
        case measure => have h1 := HLT.out; simp [intOf]; omega
      | false =>
        have HN := Hd (HAT.out hs)
        rw [hs] at HC
        clear hs HAT HAN
        go_wp2_with (fail)
        refine HC.out.mono ?_
        rintro e w3 ⟨rfl, hb3⟩
        have HB3 := Hd (HBW.out.trans (hb3.mono HBW.out.size))
        clear hb3
        go_wp2_with (fail)
        go_ret
        exact ⟨by rw [HN.out]; rfl, HB3.out⟩
    · have hki : ¬ (k : Int) < (l.length : Int) := by omega
      have HN : Hid (eqF samePol l m = true) := eqF_all HLEN.out fun j h1 h2 => HA.out j h1 h2 (by omega)
      go_wp2_with (fail)
      go_ret
      exact ⟨by rw [HN.out]; rfl, HB.out⟩
 · have hle : ¬ (l.length : Int) = (m.length : Int) := by omega
   have hle2 : ((l.length : Int) != (m.length : Int)) = true := by simp [hle]
   have hle3 : ((l.length : Int) == (m.length : Int)) = false := by simp [hle]
   have HN : Hid (eqF samePol l m = false) := eqF_len hlen
   clear hlen
   go_enter Tryz.func64, Tryz.ntmps64
   go_wp2_with (fail)
   go_ret
   exact ⟨by rw [HN.out]; rfl, Below.refl _ _⟩
def TellsEqEx (w : World) (l m : List Ex) (fn : FuncId) (cap : Array Value) : Prop := ∀ (k : Nat) (h1 : k < l.length) (h2 : k < m.length) (W : World) (va vb : Value), Below w.heap.size w W → ExIs W l[k] va → ExIs W m[k] vb → Calls Tryz.prog fn (#[va, vb] ++ cap) W fun e w' => e = .returned (.bool (sameE l[k] m[k])) ∧ Below W.heap.size W w'
theorem equalEx_calls (l m : List Ex) (v u : Value) (fn : FuncId) (cap : Array Value) (w : World) (hv : Exs w l v) (hu : Exs w m u) (eg : ∀ args w, (callFunc fn args).run Tryz.prog w = .ok (.enter fn args) w) (hq : TellsEqEx w l m fn cap) :
 Calls Tryz.prog 71 #[v, u, .func (.func fn) #[] cap] w fun e w' => e = .returned (.bool (eqF sameE l m)) ∧ Below w.heap.size w w' := by
 obtain ⟨b, o, c, p, rfl, hmax, hp, hl⟩ := hv.at
 obtain ⟨b', o', c', p', rfl, hmax', hp', hl'⟩ := hu.at
 have HL := Hd hl
 have HL' := Hd hl'
 have HP := Hd hp
 have HP' := Hd hp'
 have HQ := Hd hq
 clear hl hl' hp hp' hq hv hu
 by_cases hlen : l.length = m.length
 · have hle : (l.length : Int) = (m.length : Int) := by omega
   have hle2 : ((l.length : Int) != (m.length : Int)) = false := by simp [hle]
   have hle3 : ((l.length : Int) == (m.length : Int)) = true := by simp [hle]
   clear hle
   have HLEN := Hd hlen
   clear hlen
   go_enter Tryz.func71, Tryz.ntmps71
   go_wp2_with (fail)
   go_loopw [7, 8, 9, 17] (fun _ _ _ i ws => ∃ (k : Nat) (wo : World), k ≤ l.length ∧ i = .int .i64 k ∧ wo = ws ∧ Hid (Below w.heap.size w wo) ∧ Hid (∀ j (h1 : j < l.length) (h2 : j < m.length), j < k → sameE l[j] m[j] = true)) (fun _ _ _ i _ => l.length - (intOf i).toNat)
   case atStart => exact ⟨0, _, Nat.zero_le _, rfl, rfl, Below.refl _ _, fun j _ _ h => absurd h (by omega)⟩
   case round =>
    obtain ⟨k, wo, hk, rfl, rfl, HB, HA⟩ := hrel
    by_cases hlt : k < l.length
    · have hlt2 : k < m.length := by have := HLEN.out; omega
      obtain ⟨pl, cl, pa, ca, s1, s2, z0, z1, z2, z3, z4, z5, z6⟩ := HL.out k hlt
      obtain ⟨plb, clb, pab, cab, s1b, s2b, z0b, z1b, z2b, z3b, z4b, z5b, z6b⟩ := HL'.out k hlt2
      have hbk := keeps_of_below HB.out
      have q0 := hbk.2 _ _ _ z0
      have r0 := hbk.2 _ _ _ z0b
      have q1 := hbk.2 _ _ _ z1
      have r1 := hbk.2 _ _ _ z1b
      have q2 := hbk.2 _ _ _ z2
      have r2 := hbk.2 _ _ _ z2b
      have q3 := hbk.2 _ _ _ z3
      have r3 := hbk.2 _ _ _ z3b
      have q4 := hbk.2 _ _ _ z4
      have r4 := hbk.2 _ _ _ z4b
      have q5 := hbk.2 _ _ _ z5
      have r5 := hbk.2 _ _ _ z5b
      have q6 := hbk.2 _ _ _ z6
      have r6 := hbk.2 _ _ _ z6b
      obtain rfl := HP.out (by omega)
      obtain rfl := HP'.out (by omega)
      have hki : (k : Int) < (l.length : Int) := by omega
      have hki2 : (k : Int) < (m.length : Int) := by omega
      have hk0 : (0 : Int) ≤ (k : Int) := by omega
      have hkm : (k : Int) + 1 ≤ 9223372036854775807 := by omega
      have HAT : Hid (sameE l[k] m[k] = false → eqF sameE l m = false) := fun h => eqF_at k hlt hlt2 h
      have HAN : Hid (sameE l[k] m[k] = true → ∀ j (h1 : j < l.length) (h2 : j < m.length), j < k + 1 → sameE l[j] m[j] = true) := fun h j h1 h2 h3 => by
       rcases Nat.lt_or_ge j k with h4 | h4
       · exact HA.out j h1 h2 h4
       · obtain rfl : j = k := by omega
         exact h
      have HQK : Hid (∀ (W : World) (va vb : Value), Below w.heap.size w W → ExIs W l[k] va → ExIs W m[k] vb → Calls Tryz.prog fn (#[va, vb] ++ cap) W fun e w' => e = .returned (.bool (sameE l[k] m[k])) ∧ Below W.heap.size W w') := HQ.out k hlt hlt2
      have HLT := Hd hlt
      generalize l[k] = x at *
      generalize m[k] = y at *
      obtain ⟨Wa, eWa⟩ : ∃ Wa, wo.alloc (.cells #[.int .i64 x.kind, .int .i64 x.at_, .int .i64 x.num, .int .i64 x.ty, .string x.name, .slice pl x.lab.length cl, .slice pa x.kids.length ca] 26) = Wa := ⟨_, rfl⟩
      have hba : Below wo.heap.size wo Wa := by rw [← eWa]; exact (Below.refl _ _).alloc (Nat.le_refl _) _
      have hXa : Blk Wa wo.heap.size [.int .i64 x.kind, .int .i64 x.at_, .int .i64 x.num, .int .i64 x.ty, .string x.name, .slice pl x.lab.length cl, .slice pa x.kids.length ca] 26 := by rw [← eWa]; exact Blk.new _ _ _
      obtain ⟨W2, eW⟩ : ∃ W2, Wa.alloc (.cells #[.int .i64 y.kind, .int .i64 y.at_, .int .i64 y.num, .int .i64 y.ty, .string y.name, .slice plb y.lab.length clb, .slice pab y.kids.length cab] 26) = W2 := ⟨_, rfl⟩
      have hbb : Below Wa.heap.size Wa W2 := by rw [← eW]; exact (Below.refl _ _).alloc (Nat.le_refl _) _
      have hb2 : Below wo.heap.size wo W2 := hba.trans (hbb.mono hba.size)
      have hX := hXa.below hbb
      have hY : Blk W2 Wa.heap.size [.int .i64 y.kind, .int .i64 y.at_, .int .i64 y.num, .int .i64 y.ty, .string y.name, .slice plb y.lab.length clb, .slice pab y.kids.length cab] 26 := by rw [← eW]; exact Blk.new _ _ _
      have hka := keeps_of_below hba
      replace r0 := hka.2 _ _ _ r0
      replace r1 := hka.2 _ _ _ r1
      replace r2 := hka.2 _ _ _ r2
      replace r3 := hka.2 _ _ _ r3
      replace r4 := hka.2 _ _ _ r4
      replace r5 := hka.2 _ _ _ r5
      replace r6 := hka.2 _ _ _ r6
      have d0 := hX.cell 0
      have f0 := hY.cell 0
      have d1 := hX.cell 1
      have f1 := hY.cell 1
      have d2 := hX.cell 2
      have f2 := hY.cell 2
      have d3 := hX.cell 3
      have f3 := hY.cell 3
      have d4 := hX.cell 4
      have f4 := hY.cell 4
      have d5 := hX.cell 5
      have f5 := hY.cell 5
      have d6 := hX.cell 6
      have f6 := hY.cell 6
      simp only [List.getElem?_cons_zero, List.getElem?_cons_succ] at d0 f0 d1 f1 d2 f2 d3 f3 d4 f4 d5 f5 d6 f6
      have hk2 := hbk.trans (keeps_of_below hb2)
      have HBW := Hd (HB.out.trans (hb2.mono HB.out.size))
      have HC := Hd (HQK.out W2 (.agg #[.int .i64 x.kind, .int .i64 x.at_, .int .i64 x.num, .int .i64 x.ty, .string x.name, .slice pl x.lab.length cl, .slice pa x.kids.length ca]) (.agg #[.int .i64 y.kind, .int .i64 y.at_, .int .i64 y.num, .int .i64 y.ty, .string y.name, .slice plb y.lab.length clb, .slice pab y.kids.length cab]) HBW.out ⟨_, _, rfl, s1.stays hk2, s2.stays hk2⟩ ⟨_, _, rfl, s1b.stays hk2, s2b.stays hk2⟩)
      clear z0 z0b z1 z1b z2 z2b z3 z3b z4 z4b z5 z5b z6 z6b s1 s2 s1b s2b hbk hk2 hb2 hX hY hba hbb hXa hka hlt hlt2 hk HQK
      cases hs : sameE x y with
      | true =>
        have HN := Hd (HAN.out hs)
        rw [hs] at HC
        clear hs HAT HAN
        go_wp2_with (fail)
        refine HC.out.mono ?_
        rintro e w3 ⟨rfl, hb3⟩
        have HB3 := Hd (HBW.out.trans (hb3.mono HBW.out.size))
        clear hb3
        go_wp2_with (fail)
        go_roundw
        case rel => exact ⟨k + 1, _, by have h1 := HLT.out; omega, by go_num, rfl, HB3.out, HN.out⟩
        case measure => have h1 := HLT.out; simp [intOf]; omega
      | false =>
        have HN := Hd (HAT.out hs)
        rw [hs] at HC
        clear hs HAT HAN
        go_wp2_with (fail)
        refine HC.out.mono ?_
        rintro e w3 ⟨rfl, hb3⟩
        have HB3 := Hd (HBW.out.trans (hb3.mono HBW.out.size))
        clear hb3
        go_wp2_with (fail)
        go_ret
        exact ⟨by rw [HN.out]; rfl, HB3.out⟩
    · have hki : ¬ (k : Int) < (l.length : Int) := by omega
      have HN : Hid (eqF sameE l m = true) := eqF_all HLEN.out fun j h1 h2 => HA.out j h1 h2 (by omega)
      go_wp2_with (fail)
      go_ret
      exact ⟨by rw [HN.out]; rfl, HB.out⟩
 · have hle : ¬ (l.length : Int) = (m.length : Int) := by omega
   have hle2 : ((l.length : Int) != (m.length : Int)) = true := by simp [hle]
   have hle3 : ((l.length : Int) == (m.length : Int)) = false := by simp [hle]
   have HN : Hid (eqF sameE l m = false) := eqF_len hlen
   clear hlen
   go_enter Tryz.func71, Tryz.ntmps71
   go_wp2_with (fail)
   go_ret
   exact ⟨by rw [HN.out]; rfl, Below.refl _ _⟩
end
section
open Go.RowKit Go.Maps
theorem samePol_calls (p q : Pol) (va vb : Value) (w : World) (hp : PolIs w p va) (hq : PolIs w q vb) : Calls Tryz.prog 168 #[va, vb] w fun e w' => e = .returned (.bool (samePol p q)) ∧ Below w.heap.size w w' := by
 obtain ⟨vr, rfl, hvr⟩ := hp
 obtain ⟨us, rfl, hus⟩ := hq
 obtain ⟨pr, cr, rfl, h1⟩ := hvr
 obtain ⟨ps, cs, rfl, h2⟩ := hus
 have hvr : Strs w p.2 (.slice pr p.2.length cr) := ⟨pr, cr, rfl, h1⟩
 have hus : Strs w q.2 (.slice ps q.2.length cs) := ⟨ps, cs, rfl, h2⟩
 obtain ⟨W2, eW⟩ : ∃ W2, (w.alloc (.cells #[.string p.1, .slice pr p.2.length cr] 92)).alloc (.cells #[.string q.1, .slice ps q.2.length cs] 92) = W2 := ⟨_, rfl⟩
 obtain ⟨z2, hb2, m0, m1⟩ := boxes2 eW
 have d0 : W2.cell? ⟨w.heap.size, 0, none⟩ = some (.string p.1) := m0 0
 have d1 : W2.cell? ⟨w.heap.size, 1, none⟩ = some (.slice pr p.2.length cr) := m0 1
 have f0 : W2.cell? ⟨w.heap.size + 1, 0, none⟩ = some (.string q.1) := m1 0
 have f1 : W2.cell? ⟨w.heap.size + 1, 1, none⟩ = some (.slice ps q.2.length cs) := m1 1
 have HE := Hd (equalS_calls p.2 q.2 _ _ W2 (hvr.stays (keeps_of_below hb2)) (hus.stays (keeps_of_below hb2)))
 have HB2 := Hd hb2
 have HR : Hid (samePol p q = ((p.1 == q.1) && (p.2 == q.2))) := rfl
 generalize (p.2 == q.2) = b2 at *
 clear hb2 m0 m1 z2 hvr hus h1 h2
 by_cases ho : p.1 = q.1
 · have HO : Hid ((p.1 == q.1) = true) := by simp [Hid, ho]
   have hl : p.1.toList = q.1.toList := by rw [ho]
   clear ho
   go_enter Tryz.func168, Tryz.ntmps168
   go_wp2_with (fail)
   refine HE.out.mono ?_
   rintro e w3 ⟨rfl, n, rfl⟩
   go_wp2_with (fail)
   go_ret
   exact ⟨by rw [HR.out, HO.out]; rfl, below_drewN HB2.out _⟩
 · have HO : Hid ((p.1 == q.1) = false) := by simp [Hid, ho]
   have hl : ¬ p.1.toList = q.1.toList := fun e => ho (bytes_eq.1 (by simp [e]))
   clear ho
   go_enter Tryz.func168, Tryz.ntmps168
   go_wp2_with (fail)
   go_ret
   exact ⟨by rw [HR.out, HO.out]; rfl, HB2.out⟩
theorem sameLab_calls (l m : Lab) (v u : Value) (w : World) (hv : Lbl w l v) (hu : Lbl w m u) : Calls Tryz.prog 70 #[v, u] w fun e w' => e = .returned (.bool (sameLab l m)) ∧ Below w.heap.size w w' := by
 have eg : ∀ args w, (callFunc 168 args).run Tryz.prog w = .ok (.enter 168 args) w := enters_at Tryz.func168 (by kernel_rfl) rfl
 have HE := Hd (equalPol_calls l m v u 168 #[] w hv hu eg (fun k h1 h2 W va vb hb ha hb' => by simpa using samePol_calls l[k] m[k] va vb W ha hb'))
 have HR : Hid (sameLab l m = eqF samePol l m) := rfl
 generalize eqF samePol l m = b at *
 obtain ⟨p, c, rfl, _⟩ := hv
 obtain ⟨p', c', rfl, _⟩ := hu
 go_enter Tryz.func70, Tryz.ntmps70
 go_wp2_with (fail)
 refine HE.out.mono ?_
 rintro e w3 ⟨rfl, hb3⟩
 go_wp2_with (fail)
 go_ret
 exact ⟨by rw [HR.out]; rfl, hb3⟩
end
section
open Go.RowKit Go.Maps
mutual
def deepE : Ex → Nat
 | .mk _ _ _ _ _ _ a => deepL a + 1
def deepL : List Ex → Nat
 | [] => 0
 | x :: r => max (deepE x) (deepL r)
end
theorem deepE_eq (x : Ex) : deepE x = deepL x.kids + 1 := by
 cases x
 rw [deepE]
 rfl
theorem deepL_at : ∀ {l : List Ex} {k : Nat} (h : k < l.length), deepE l[k] ≤ deepL l
 | x :: r, 0, _ => by rw [deepL]; exact Nat.le_max_left _ _
 | x :: r, k + 1, h => by
   rw [deepL]
   exact Nat.le_trans (deepL_at (l := r) (k := k) (by simpa using h)) (Nat.le_max_right _ _)
theorem sameE_eq (x y : Ex) : sameE x y = ((x.kind == y.kind) && (x.num == y.num) && (x.ty == y.ty) && (x.name == y.name) && sameLab x.lab y.lab && sameL x.kids y.kids) := by
 cases x
 rw [sameE]
 rfl
theorem same_step (x y : Ex) (va vb : Value) (w : World) (hx : ExIs w x va) (hy : ExIs w y vb)
 (hkids : ∀ (W : World) (v u : Value), Exs W x.kids v → Exs W y.kids u → Calls Tryz.prog 71 #[v, u, .func (.func 21) #[] #[]] W fun e w' => e = .returned (.bool (sameL x.kids y.kids)) ∧ Below W.heap.size W w') :
 Calls Tryz.prog 21 #[va, vb] w fun e w' => e = .returned (.bool (sameE x y)) ∧ Below w.heap.size w w' := by
 obtain ⟨vl, wa, rfl, hl, ha⟩ := hx
 obtain ⟨pl, cl, rfl, h1⟩ := hl
 obtain ⟨pa, ca, rfl, h2⟩ := ha
 have hl : Lbl w x.lab (.slice pl x.lab.length cl) := ⟨pl, cl, rfl, h1⟩
 have ha : Exs w x.kids (.slice pa x.kids.length ca) := ⟨pa, ca, rfl, h2⟩
 obtain ⟨vl, wa, rfl, hl', ha'⟩ := hy
 obtain ⟨pl', cl', rfl, h1'⟩ := hl'
 obtain ⟨pa', ca', rfl, h2'⟩ := ha'
 have hl' : Lbl w y.lab (.slice pl' y.lab.length cl') := ⟨pl', cl', rfl, h1'⟩
 have ha' : Exs w y.kids (.slice pa' y.kids.length ca') := ⟨pa', ca', rfl, h2'⟩
 clear h1 h2 h1' h2'
 obtain ⟨W2, eW⟩ : ∃ W2, (w.alloc (.cells #[.int .i64 x.kind, .int .i64 x.at_, .int .i64 x.num, .int .i64 x.ty, .string x.name, .slice pl x.lab.length cl, .slice pa x.kids.length ca] 26)).alloc (.cells #[.int .i64 y.kind, .int .i64 y.at_, .int .i64 y.num, .int .i64 y.ty, .string y.name, .slice pl' y.lab.length cl', .slice pa' y.kids.length ca'] 26) = W2 := ⟨_, rfl⟩
 obtain ⟨z2, hb2, m0, m1⟩ := boxes2 eW
 have hB : Blk W2 w.heap.size (exC x (.slice pl x.lab.length cl) (.slice pa x.kids.length ca)) 26 := by rw [← eW]; exact (Blk.new _ _ _).below ((Below.refl _ _).alloc (Nat.le_refl _) _)
 have hC : Blk W2 (w.heap.size + 1) (exC y (.slice pl' y.lab.length cl') (.slice pa' y.kids.length ca')) 26 := by rw [← eW]; exact Blk.new2 _ _ _ _ _
 obtain ⟨q0, q1, q2, q3, q4, q5, q6⟩ := hB.cells7
 obtain ⟨r0, r1, r2, r3, r4, r5, r6⟩ := hC.cells7
 have hk := keeps_of_below hb2
 have HL := Hd (sameLab_calls x.lab y.lab _ _ W2 (hl.stays hk) (hl'.stays hk))
 have HK : Hid (∀ W, Below W2.heap.size W2 W → Blk W w.heap.size (exC x (.slice pl x.lab.length cl) (.slice pa x.kids.length ca)) 26 ∧ Blk W (w.heap.size + 1) (exC y (.slice pl' y.lab.length cl') (.slice pa' y.kids.length ca')) 26 ∧ Calls Tryz.prog 71 #[.slice pa x.kids.length ca, .slice pa' y.kids.length ca', .func (.func 21) #[] #[]] W fun e w' => e = .returned (.bool (sameL x.kids y.kids)) ∧ Below W.heap.size W w') := fun W hb => by
  have hk3 := hk.trans (keeps_of_below hb)
  exact ⟨hB.below hb, hC.below hb, hkids W _ _ (ha.stays hk3) (ha'.stays hk3)⟩
 have HB2 := Hd hb2
 have HR := Hd (sameE_eq x y)
 clear hkids hB hC hk hb2 m0 m1 z2 ha ha' hl hl'
 generalize sameLab x.lab y.lab = b1 at *
 generalize sameL x.kids y.kids = b2 at *
 by_cases c1 : x.kind = y.kind
 · have C1 : Hid ((x.kind == y.kind) = true) := by simp [Hid, c1]
   have d1 : (x.kind == y.kind) = true := C1
   clear c1
   by_cases c2 : x.num = y.num
   · have C2 : Hid ((x.num == y.num) = true) := by simp [Hid, c2]
     have d2 : (x.num == y.num) = true := C2
     clear c2
     by_cases c3 : x.ty = y.ty
     · have C3 : Hid ((x.ty == y.ty) = true) := by simp [Hid, c3]
       have d3 : (x.ty == y.ty) = true := C3
       clear c3
       by_cases c4 : x.name = y.name
       · have C4 : Hid ((x.name == y.name) = true) := by simp [Hid, c4]
         have hs : x.name.toList = y.name.toList := by rw [c4]
         clear c4
         cases b1 with
         | true =>
           go_enter Tryz.func21, Tryz.ntmps21
           go_wp2_with (fail)
           refine HL.out.mono ?_
           rintro e w3 ⟨rfl, hb3⟩
           obtain ⟨hB3, hC3, hK3⟩ := HK.out w3 hb3
           obtain ⟨q0, q1, q2, q3, q4, q5, q6⟩ := hB3.cells7
           obtain ⟨r0, r1, r2, r3, r4, r5, r6⟩ := hC3.cells7
           have HK3 := Hd hK3
           have HB3 := Hd (HB2.out.trans (hb3.mono HB2.out.size))
           clear hB3 hC3 hK3 hb3
           go_wp2_with (fail)
           refine HK3.out.mono ?_
           rintro e w4 ⟨rfl, hb4⟩
           have HB4 := Hd (HB3.out.trans (hb4.mono HB3.out.size))
           clear hb4
           go_wp2_with (fail)
           go_ret
           exact ⟨by rw [HR.out, C1.out, C2.out, C3.out, C4.out]; rfl, HB4.out⟩
         | false =>
           go_enter Tryz.func21, Tryz.ntmps21
           go_wp2_with (fail)
           refine HL.out.mono ?_
           rintro e w3 ⟨rfl, hb3⟩
           have HB3 := Hd (HB2.out.trans (hb3.mono HB2.out.size))
           clear hb3
           go_wp2_with (fail)
           go_ret
           exact ⟨by rw [HR.out, C1.out, C2.out, C3.out, C4.out]; rfl, HB3.out⟩
       · have C4 : Hid ((x.name == y.name) = false) := by simp [Hid, c4]
         have hs : ¬ x.name.toList = y.name.toList := fun e => c4 (bytes_eq.1 (by simp [e]))
         clear c4
         go_enter Tryz.func21, Tryz.ntmps21
         go_wp2_with (fail)
         go_ret
         exact ⟨by rw [HR.out, C1.out, C2.out, C3.out, C4.out]; rfl, HB2.out⟩
     · have C3 : Hid ((x.ty == y.ty) = false) := by simp [Hid, c3]
       have d3 : (x.ty == y.ty) = false := C3
       go_enter Tryz.func21, Tryz.ntmps21
       go_wp2_with (fail)
       go_ret
       exact ⟨by rw [HR.out, C1.out, C2.out, C3.out]; rfl, HB2.out⟩
   · have C2 : Hid ((x.num == y.num) = false) := by simp [Hid, c2]
     have d2 : (x.num == y.num) = false := C2
     go_enter Tryz.func21, Tryz.ntmps21
     go_wp2_with (fail)
     go_ret
     exact ⟨by rw [HR.out, C1.out, C2.out]; rfl, HB2.out⟩
 · have C1 : Hid ((x.kind == y.kind) = false) := by simp [Hid, c1]
   have d1 : (x.kind == y.kind) = false := C1
   go_enter Tryz.func21, Tryz.ntmps21
   go_wp2_with (fail)
   go_ret
   exact ⟨by rw [HR.out, C1.out]; rfl, HB2.out⟩
theorem same_deep : ∀ (n : Nat) (x y : Ex) (va vb : Value) (w : World), deepE x ≤ n → ExIs w x va → ExIs w y vb → Calls Tryz.prog 21 #[va, vb] w fun e w' => e = .returned (.bool (sameE x y)) ∧ Below w.heap.size w w'
 | 0, x, y, va, vb, w, hn, hx, hy => by rw [deepE_eq] at hn; omega
 | n + 1, x, y, va, vb, w, hn, hx, hy => by
   refine same_step x y va vb w hx hy fun W v u hv hu => ?_
   rw [sameL_eqF]
   have eg : ∀ args w, (callFunc 21 args).run Tryz.prog w = .ok (.enter 21 args) w := enters_at Tryz.func21 (by kernel_rfl) rfl
   refine equalEx_calls x.kids y.kids v u 21 #[] W hv hu eg fun k h1 h2 W' va vb hb hva hvb => ?_
   rw [deepE_eq] at hn
   have hd := deepL_at h1
   simpa using same_deep n x.kids[k] y.kids[k] va vb W' (by omega) hva hvb
theorem same_calls (x y : Ex) (va vb : Value) (w : World) (hx : ExIs w x va) (hy : ExIs w y vb) : Calls Tryz.prog 21 #[va, vb] w fun e w' => e = .returned (.bool (sameE x y)) ∧ Below w.heap.size w w' := same_deep _ x y va vb w (Nat.le_refl _) hx hy
end
section
open Go.RowKit Go.Maps
mutual
def nodesE : Ex → Nat
 | .mk _ _ _ _ _ _ a => nodesL a + 1
def nodesL : List Ex → Nat
 | [] => 0
 | x :: r => nodesE x + nodesL r
end
end
section
open Go.RowKit Go.WideShapes Go.ChangeShapes Go.ChangeAt
def Rdn {α : Type} (N : Nat) (P : Program) (t : TypeId) (E : Enc α) (G : α → Prop) (m : α → Nat) : Prop :=
 ∀ (H : Type) (enc : TypeId × Value → H) (w : World) (fuel : Nat) (cs : List Value) (x : DataW H × List MemPlace), fuel < N → DataW.trod enc P w 0 (fun _ => true) true fuel t cs = some x → ∃ a : α, E w a cs ∧ G a ∧ m a ≤ Rows.uptoBulk x.1
theorem Rdn.slice {P : Program} {α : Type} {N : Nat} {t e : TypeId} {k : Nat} {E : Enc α} {G : α → Prop} {m : α → Nat} (ht : P.underlying t = some (.slice e)) (hk : 0 < k) (hc : P.cellsOf e = k) (hE : Rdn N P e E G m) :
 Rdn (N + 1) P t (Sl E k) (okList G) (szList m) := by
 intro H enc w fuel cs x hN h
 rcases DataW.trod_slice ht h with ⟨rfl, rfl⟩ | ⟨a, len, cap, elems, rest, n, rfl, rfl, rfl, hb, hl, hm, hlen, hel, hsp, hns⟩
 · exact ⟨[], ⟨_, rfl, none, 0, rfl, by simp, by unfold maxLen; omega, Or.inl rfl⟩, fun x hx => by simp at hx, by simp [szList, Rows.uptoBulk]⟩
 · rw [hc] at hel
   have each : ∀ i (hi : i < elems.length), ∃ a', (∃ vs, E w a' vs ∧ vs.length = k ∧ (∀ j, j < k → w.cell? ((a.add (i * k)).add j) = vs[j]?) ∧ G a') ∧ m a' ≤ Rows.uptoBulk elems[i].1 := by
    intro i hi
    have h1 := hel i (by omega)
    rw [List.getElem?_eq_getElem hi, Option.bind_eq_some_iff] at h1
    obtain ⟨vs, g1, g2⟩ := h1
    obtain ⟨_, g3, g4⟩ := World.cells?_some g1
    obtain ⟨a', e1, e2, e3⟩ := hE H enc w n vs _ (by omega) g2
    exact ⟨a', ⟨vs, e1, g3, g4, e2⟩, e3⟩
   obtain ⟨l, l1, l2, l3⟩ := choose_list (n := fun y : DataW H × List MemPlace => Rows.uptoBulk y.1) elems _ each
   refine ⟨l, ⟨_, rfl, some a, cap, by rw [l1, hlen], by omega, hm, ?_⟩, ?_, ?_⟩
   · by_cases h0 : l = []
     · exact Or.inl h0
     · right
       have hpos : 0 < l.length := List.length_pos_iff.2 h0
       obtain ⟨b, o, spot⟩ := a
       obtain ⟨vs, e1, e2, e3, _⟩ := l2 0 hpos
       have hc0 := e3 0 hk
       have hspot : spot = none := by
        have : w.cell? ⟨b, o, spot⟩ = some (vs[0]'(by omega)) := by
         rw [← List.getElem?_eq_getElem (by omega), ← hc0]
         simp [Addr.add]
        simpa using World.cell?_spot this
       subst hspot
       refine ⟨b, o, rfl, fun i hi => ?_⟩
       obtain ⟨vs, e1, e2, e3, _⟩ := l2 i hi
       refine ⟨vs, e1, e2, fun j x hx => ?_⟩
       have hj : j < vs.length := (List.getElem?_eq_some_iff.1 hx).1
       have := e3 j (by omega)
       rw [hx, add_plain, add_plain] at this
       exact this
   · intro x hx
     obtain ⟨i, hi, rfl⟩ := List.getElem_of_mem hx
     obtain ⟨_, _, _, _, g⟩ := l2 i hi
     exact g
   · simp only [szList, Rows.uptoBulk, bulkAll_sum, List.map_map]
     have : (elems.map fun y : DataW H × List MemPlace => Rows.uptoBulk y.1) = elems.map (Rows.uptoBulk ∘ fun x => x.1) := rfl
     rw [this] at l3
     omega
theorem nodesL_sum (l : List Ex) : nodesL l = (l.map nodesE).sum := by
 induction l with
 | nil => simp [nodesL]
 | cons x l ih => simp [nodesL, ih]
inductive OkEx : Ex → Prop
 | mk (kind at_ n ty : Int) (name : Txt) (l : Lab) (a : List Ex) (h0 : okNum kind) (h1 : okNum at_) (h2 : okNum n) (h3 : okNum ty) (h4 : okTxt name) (hr : ∀ y ∈ a, OkEx y) : OkEx (.mk kind at_ n ty name l a)
theorem rdEx : ∀ N : Nat, Rdn N Tryz.prog 26 exE OkEx nodesE := by
 intro N
 induction N using Nat.strongRecOn with
 | ind N ih =>
   intro H enc w fuel cs x hN h
   obtain ⟨xs, n, rfl, rfl, h1, h2, h3⟩ := DataW.trod_struct Tryz.underlying26 h
   rw [show Tryz.prog.cellsOf 26 = 7 by kernel_rfl] at h1
   have h2' : xs.length = 7 := h2
   match cs, h1 with
   | [c0, c1, c2, c3, c4, c5, c6], _ =>
     match xs, h2' with
     | [y0, y1, y2, y3, y4, y5, y6], _ =>
       have hci : Tryz.prog.cellsOf 3 = 1 := by kernel_rfl
       have hcs : Tryz.prog.cellsOf 9 = 1 := by kernel_rfl
       have hcl : Tryz.prog.cellsOf 23 = 1 := by kernel_rfl
       have hca : Tryz.prog.cellsOf 24 = 1 := by kernel_rfl
       have g0 := h3 0 _ rfl
       have g1 := h3 1 _ rfl
       have g2 := h3 2 _ rfl
       have g3 := h3 3 _ rfl
       have g4 := h3 4 _ rfl
       have g5 := h3 5 _ rfl
       have g6 := h3 6 _ rfl
       simp only [hci, hcs, hcl, hca, List.drop_zero, List.drop_succ_cons, List.take_succ_cons, List.take_zero, List.getElem?_cons_zero, List.getElem?_cons_succ] at g0 g1 g2 g3 g4 g5 g6
       obtain ⟨k0, e0, m0, _⟩ := Rd.num Tryz.underlying3 H enc w n _ _ g0
       obtain ⟨k1, e1, m1, _⟩ := Rd.num Tryz.underlying3 H enc w n _ _ g1
       obtain ⟨k2, e2, m2, _⟩ := Rd.num Tryz.underlying3 H enc w n _ _ g2
       obtain ⟨k3, e3, m3, _⟩ := Rd.num Tryz.underlying3 H enc w n _ _ g3
       obtain ⟨k4, e4, m4, _⟩ := Rd.txt Tryz.underlying9 H enc w n _ _ g4
       obtain ⟨k5, ⟨v5, e5, s5⟩, m5, _⟩ := rdLabel H enc w n _ _ g5
       obtain ⟨k6, ⟨v6, e6, s6⟩, m6, b6⟩ := Rdn.slice (k := 7) Tryz.underlying24 (by decide) (by kernel_rfl) (ih n (by omega)) H enc w n _ _ (by omega) g6
       have e0' : [c0] = [.int .i64 k0] := e0
       have e1' : [c1] = [.int .i64 k1] := e1
       have e2' : [c2] = [.int .i64 k2] := e2
       have e3' : [c3] = [.int .i64 k3] := e3
       have e4' : [c4] = [.string k4] := e4
       have e5' : [c5] = [v5] := e5
       have e6' : [c6] = [v6] := e6
       simp only [List.cons.injEq, and_true] at e0' e1' e2' e3' e4' e5' e6'
       subst e0' e1' e2' e3' e4' e5' e6'
       refine ⟨.mk k0 k1 k2 k3 k4 k5 k6, exE_mk s5 s6, .mk _ _ _ _ _ _ _ m0 m1 m2 m3 m4 m6, ?_⟩
       have hs := nodesL_sum k6
       unfold szList at b6
       simp only [nodesE, Rows.uptoBulk, List.map_cons, List.map_nil, Rows.uptoBulkAll]
       omega
theorem ex_arg {H : Type} {enc : TypeId × Value → H} {w : World} {v : Value} {d : DataW H} {ps : List MemPlace} (hv : ∃ cs, v = .agg cs ∧ cs.size = 7) (h : DataW.Trod enc Tryz.prog w 0 (fun _ => true) true 26 v d ps) : ∃ x : Ex, ExIs w x v ∧ OkEx x ∧ nodesE x ≤ Rows.uptoBulk d := by
 obtain ⟨fuel, hf⟩ := h
 obtain ⟨x, h1, h2, h3⟩ := rdEx (fuel + 1) H enc w fuel _ _ (Nat.lt_succ_self _) hf
 obtain ⟨cs, rfl, _⟩ := hv
 obtain ⟨vl, va, e, hl, ha⟩ := exE_out h1
 refine ⟨x, ⟨vl, va, ?_, hl, ha⟩, h2, h3⟩
 congr 1
 apply Array.ext'
 simpa [Value.cells] using e
end
end Go.Proofs.YtminbehofnnhmaaGreatDoor
