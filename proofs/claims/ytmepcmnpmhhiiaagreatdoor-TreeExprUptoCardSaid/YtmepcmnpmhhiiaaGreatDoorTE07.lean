/-
  The reader's primary expressions: how they begin and end, and what is within them deferred. slices.EqualFunc at policies and at expressions; tree.sameLabel; printed by samgen.py. tree.sameLabel, tree.SameExpr. tree.SameExpr; how deep an expression is. The document's formLabel. Texts as keys of a map. The document's LevelOf: a map of signs. The document's Deep and SizeOf. The document's FormExpr; printed by frmgen.py. tree.Size: how many an expression has. tree.text and tree.Text, whole. Plain law of TreeExpr: what is formed, counted and printed is the document's.
-/
import Derived.Test.YtmepcmnpmhhiiaaGreatDoorTE06
import Derived.Defers
import Derived.Test.YtmepcmnpmhhiiaaGreatDoorTE05
import Derived.Test.YtmepcmnpmhhiiaaGreatDoorTE00
import Derived.ProofKit
import Derived.Maps.OwnOps
import Derived.Maps.Views
import Derived.Maps.OwnSet
import Derived.Test.YtmepcmnpmhhiiaaGreatDoorTE03
import Derived.Test.YtmepcmnpmhhiiaaGreatDoorTE04
namespace Go.Proofs.YtmepcmnpmhhiiaaGreatDoor
open Go.RowKit Go.Maps
set_option linter.unusedVariables false
set_option linter.unusedSimpArgs false

set_option maxRecDepth 100000 in
theorem expr_calls (hlev : LevelC) {B : Nat} {T : List Tok} {E : Int} {tv : Value} {dp ns : Nat} {prim : Nat → Rs Ex} (hm : Mono prim) (hp : ReadsEx B T E tv dp ns 136 #[.pointer (some ⟨B, 0, none⟩)] prim) :
    ∀ (j n : Nat), n + j = 6 → ReadsEx B T E tv dp ns 55 #[.pointer (some ⟨B, 0, none⟩), .int .i64 n] (exprL T prim j) := by
  intro j
  induction j with
  | zero =>
    intro n hn W k hr
    obtain rfl : n = 6 := by omega
    exact expr_six hp hr
  | succ j ih =>
    intro n hn W k hr
    have h1 := ih (n + 1) (by omega)
    have e1 : ((n + 1 : Nat) : Int) = (n : Int) + 1 := by omega
    rw [e1] at h1
    have h2 := expr_step hlev (exprL_mono hm j) (by omega : n < 6) h1 hr
    have e2 : (5 - (j : Int)) = (n : Int) := by omega
    unfold exprL
    rw [e2]
    exact h2
theorem expr_one (hlev : LevelC) {B : Nat} {T : List Tok} {E : Int} {tv : Value} {dp ns : Nat} {prim : Nat → Rs Ex} (hm : Mono prim) (hp : ReadsEx B T E tv dp ns 136 #[.pointer (some ⟨B, 0, none⟩)] prim) :
    ReadsEx B T E tv dp ns 55 #[.pointer (some ⟨B, 0, none⟩), .int .i64 1] (exprL T prim 5) := expr_calls hlev hm hp 5 1 rfl
set_option maxRecDepth 100000 in
theorem down_calls (B gb : Nat) (b : Int) (u : FrameMode) (w : World) (hg : w.cell? ⟨gb, 0, none⟩ = some (.pointer (some ⟨B, 0, none⟩))) (hc : w.cell? ⟨B, 4, none⟩ = some (.int .i64 b)) (hf : w.frozen? ⟨B, 4, none⟩ = false) :
    CallsD Tryz.prog 187 #[.pointer (some ⟨gb, 0, none⟩)] u w fun e u' w' => u' = u ∧ (e = .returned (.tuple #[]) ∧ w' = w.setCell ⟨B, 4, none⟩ (.int .i64 (IntKind.i64.wrap (b - 1)))) := by
  generalize hq : IntKind.i64.wrap (b - 1) = q
  go_enter_d Tryz.func187, Tryz.ntmps187
  go_wp2_with (fail)
  go_end0
  exact ⟨rfl, rfl⟩
/-- What stands while a primary expression is read. -/
structure PS (w W : World) (n3 B : Nat) (T : List Tok) (E : Int) (tv : Value) (dp ns : Nat) (t : Tok) (k : Nat) : Prop where
  rdr : Rdr W B T E tv k dp (ns + 1)
  aside : Aside1 B w W
  ptr : Blk W w.heap.size [.pointer (some ⟨B, 0, none⟩)] 87
  res : Blk W (w.heap.size + 1) zeroC 26
  tok : Blk W n3 [.int .i64 t.1, .int .i64 t.2.1, .string t.2.2] 153
  old : w.heap.size + 1 < n3
section
variable {w W W' : World} {n3 B : Nat} {T : List Tok} {E : Int} {tv : Value} {dp ns : Nat} {t : Tok} {k k' : Nat}
theorem PS.step (h : PS w W n3 B T E tv dp ns t k) (hB : B < w.heap.size) (ha : Aside1 B W W') (hr : Rdr W' B T E tv k' dp (ns + 1)) : PS w W' n3 B T E tv dp ns t k' :=
  ⟨hr, h.aside.trans ha, h.ptr.aside ha (by omega), h.res.aside ha (by omega), h.tok.aside ha (by have := h.old; omega), h.old⟩
theorem PS.below (h : PS w W n3 B T E tv dp ns t k) (hB : B < w.heap.size) (hb : Below W.heap.size W W') : PS w W' n3 B T E tv dp ns t k := h.step hB (aside_below hb) (h.rdr.below hb)
theorem PS.p0 (h : PS w W n3 B T E tv dp ns t k) : W.cell? ⟨w.heap.size, 0, none⟩ = some (.pointer (some ⟨B, 0, none⟩)) := h.ptr.cell 0
theorem PS.t0 (h : PS w W n3 B T E tv dp ns t k) : W.cell? ⟨n3, 0, none⟩ = some (.int .i64 t.1) := h.tok.cell 0
theorem PS.t1 (h : PS w W n3 B T E tv dp ns t k) : W.cell? ⟨n3, 1, none⟩ = some (.int .i64 t.2.1) := h.tok.cell 1
theorem PS.t2 (h : PS w W n3 B T E tv dp ns t k) : W.cell? ⟨n3, 2, none⟩ = some (.string t.2.2) := h.tok.cell 2
theorem Blk.new2 (w : World) (A cs : List Value) (ta t : TypeId) : Blk ((w.alloc (.cells A.toArray ta)).alloc (.cells cs.toArray t)) (w.heap.size + 1) cs t := by
  have := Blk.new (w.alloc (.cells A.toArray ta)) cs t
  have e : (w.alloc (.cells A.toArray ta)).heap.size = w.heap.size + 1 := by simp
  rw [e] at this
  exact this
set_option maxRecDepth 100000 in
/-- A primary expression is handed back: what is deferred counts down. -/
theorem prim_ret {k0 dp0 ns0 : Nat} {tmps : Array Value} {x : Ex} {a b c d e f g : Value} (ht : tmps[2]? = some (.pointer (some ⟨w.heap.size + 1, 0, none⟩))) (h0 : Rdr w B T E tv k0 dp0 ns0) (hA : Aside1 B w W) (hr : Rdr W B T E tv k dp (ns + 1))
    (hP : Blk W w.heap.size [.pointer (some ⟨B, 0, none⟩)] 87) (hE : Blk W (w.heap.size + 1) [a, b, c, d, e, f, g] 26) (hx : ExIs (since (w.heap.size + 2) W) x (.agg #[a, b, c, d, e, f, g])) (hns : ns < 12) :
    Leaves Tryz.prog Tryz.f136 tmps (Does w B T E tv dp ns ExIs (.ok x k)) [{ target := .fn (.func 187) #[.pointer (some ⟨w.heap.size, 0, none⟩)], args := #[] }] .returning W := by
  have hB := h0.lt
  refine leaves_cons (f := 187) (args := #[.pointer (some ⟨w.heap.size, 0, none⟩)]) (by simp) (by simp [go_sem]) ?_
  refine (down_calls B w.heap.size ((ns + 1 : Nat) : Int) _ W (hP.cell 0) hr.c4 (hr.fz 4)).mono ?_
  rintro e u' w'' ⟨rfl, rfl, rfl⟩
  have hwr : IntKind.i64.wrap (((ns + 1 : Nat) : Int) - 1) = (ns : Int) := by
    rw [show (((ns + 1 : Nat) : Int) - 1) = (ns : Int) from by omega]
    exact IntWalk.i64_in _ ⟨by omega, by omega⟩
  rw [hwr]
  have hA9 := hA.trans (aside_set (B := B) (w := W) 4 (.int .i64 (ns : Int)))
  have hE9 : Blk (W.setCell ⟨B, 4, none⟩ (.int .i64 (ns : Int))) (w.heap.size + 1) [a, b, c, d, e, f, g] 26 := hE.other (by omega) _ _
  obtain ⟨q0, q1, q2, q3, q4, q5, q6⟩ := hE9.cells7
  have hD : Does w B T E tv dp ns ExIs (.ok x k) (.returned (.agg #[a, b, c, d, e, f, g])) (W.setCell ⟨B, 4, none⟩ (.int .i64 (ns : Int))) :=
    ⟨hA9, _, rfl, hr.setN ns, hx.stays ((since_set _ _ _ (by omega)).trans (since_mono _ (by omega)))⟩
  refine ⟨.agg #[a, b, c, d, e, f, g], ?_, hD⟩
  simp [results, Tryz.results136, go_sem, ht, q0, q1, q2, q3, q4, q5, q6]
set_option maxRecDepth 100000 in
/-- A primary expression stops: what is deferred counts down, and all goes on stopping. -/
theorem prim_bad {tmps : Array Value} {cd at_ : Int} (hB : B < w.heap.size) (hA : Aside1 B w W) (hl : Left W B E tv)
    (hP : W.cell? ⟨w.heap.size, 0, none⟩ = some (.pointer (some ⟨B, 0, none⟩))) :
    Leaves Tryz.prog Tryz.f136 tmps (Does w B T E tv dp ns ExIs (.bad cd at_)) [{ target := .fn (.func 187) #[.pointer (some ⟨w.heap.size, 0, none⟩)], args := #[] }] (.panicking [{ v := stopV cd at_, recovered := false }]) W := by
  obtain ⟨k1, a1, b1, hl⟩ := hl
  refine leaves_cons (f := 187) (args := #[.pointer (some ⟨w.heap.size, 0, none⟩)]) (by simp) (by simp [go_sem]) ?_
  refine (down_calls B w.heap.size b1 _ W hP (by simp [World.cell?, hl]) (by simp [World.frozen?, hl])).mono ?_
  rintro e u' w'' ⟨rfl, rfl, rfl⟩
  exact ⟨hA.trans (aside_set _ _), rfl, k1, a1, _, by simp [World.setCell, Array.getElem?_modify, hl]; rfl⟩
/-- Q, but at a panic what hangs on nothing of the frame but what is deferred. -/
def PanicAs (D : List Deferred) (R : List PanicEntry → World → Prop) (Q : Exit → Act → World → Prop) : Exit → Act → World → Prop
  | .panic c, a, w => a.defers = D ∧ R c w
  | e, a, w => Q e a w
theorem PanicAs.normal {D : List Deferred} {R : List PanicEntry → World → Prop} {Q : Exit → Act → World → Prop} {a : Act} {w : World} (h : Q .normal a w) : PanicAs D R Q .normal a w := h
theorem wp_region_panicAs {P : Program} {id : Nat} {ops : Array Oper} {b : Bool} {Q : Exit → Act → World → Prop} {a : Act} {w : World} (D : List Deferred) (R : List PanicEntry → World → Prop)
    (hi : ∀ c a w, a.defers = D → R c w → Q (.panic c) a w) (h : (Code.region id ops b).wp P (PanicAs D R Q) a w) : (Code.region id ops b).wp P Q a w :=
  Code.wp_mono (fun e a w h => by
    cases e with
    | panic c => exact hi c a w h.1 h.2
    | _ => exact h) h
theorem exs_one {W : World} {x : Ex} {vl va : Value} {b m : Nat} {t : TypeId} (hx : ExIs (since m W) x (.agg #[.int .i64 x.kind, .int .i64 x.at_, .int .i64 x.num, .int .i64 x.ty, .string x.name, vl, va])) (hb : Blk W b (exC x vl va) t) (hm : m ≤ b) : Exs (since m W) [x] (.slice (some ⟨b, 0, none⟩) 1 1) := by
  obtain ⟨vl', va', e, h1, h2⟩ := hx
  obtain ⟨rfl, rfl⟩ : vl = vl' ∧ va = va' := by simp at e; exact e
  refine ⟨_, 1, rfl, Nat.le_refl _, by unfold maxLen; decide, .inr ⟨b, 0, rfl, fun i hi => ?_⟩⟩
  have e0 : i = 0 := by have : [x].length = 1 := rfl; have hi' : i < [x].length := hi; omega
  subst e0
  refine ⟨exC x vl va, exC_of h1 h2, rfl, fun j u hu => ?_⟩
  have hp : decide (b < m) = false := decide_eq_false (by omega)
  refine (hide_cell (fun b => decide (b < m)) W b _).trans ?_
  simp only [hp, Bool.false_eq_true, if_false]
  have := hb.cell j
  rw [hu] at this
  simpa using this
theorem exIs_leaf (W : World) (kind at_ n ty : Int) (name : Txt) : ExIs W (.mk kind at_ n ty name [] []) (.agg #[.int .i64 kind, .int .i64 at_, .int .i64 n, .int .i64 ty, .string name, .slice none 0 0, .slice none 0 0]) :=
  ⟨_, _, rfl, ⟨none, 0, rfl, Nat.le_refl _, by unfold maxLen; decide, .inl rfl⟩, ⟨none, 0, rfl, Nat.le_refl _, by unfold maxLen; decide, .inl rfl⟩⟩
theorem PS.ret (h : PS w W n3 B T E tv dp ns t k) (hns : ns < 12) {k0 dp0 ns0 : Nat} {tmps : Array Value} {x : Ex} {a b c d e f g : Value} (h0 : Rdr w B T E tv k0 dp0 ns0) (ht : tmps[2]? = some (.pointer (some ⟨w.heap.size + 1, 0, none⟩)))
    (hx : ExIs (since (w.heap.size + 2) W) x (.agg #[a, b, c, d, e, f, g])) :
    Leaves Tryz.prog Tryz.f136 tmps (Does w B T E tv dp ns ExIs (.ok x k)) [{ target := .fn (.func 187) #[.pointer (some ⟨w.heap.size, 0, none⟩)], args := #[] }] .returning (sev W (w.heap.size + 1) a b c d e f g) := by
  have hB := h0.lt
  have hA : Aside1 B w (sev W (w.heap.size + 1) a b c d e f g) := aside_sev h.aside (by omega)
  exact prim_ret ht h0 hA (h0.via hA (sev_block (by omega)) h.rdr) ((sev_block (by omega)).trans h.ptr) (Blk.sev h.res) (hx.stays (since_sev (by omega))) hns
theorem sev_keeps {a b c d e f g : Value} (h : PS w W n3 B T E tv dp ns t k) : (sev W (w.heap.size + 1) a b c d e f g).cell? ⟨w.heap.size, 0, none⟩ = some (.pointer (some ⟨B, 0, none⟩)) ∧ (sev W (w.heap.size + 1) a b c d e f g).cell? ⟨n3, 1, none⟩ = some (.int .i64 t.2.1) ∧ (sev W (w.heap.size + 1) a b c d e f g).cell? ⟨n3, 2, none⟩ = some (.string t.2.2) := by
  have h1 : Blk (sev W (w.heap.size + 1) a b c d e f g) w.heap.size [.pointer (some ⟨B, 0, none⟩)] 87 := (sev_block (by omega)).trans h.ptr
  have h2 : Blk (sev W (w.heap.size + 1) a b c d e f g) n3 [.int .i64 t.1, .int .i64 t.2.1, .string t.2.2] 153 := (sev_block (by have := h.old; omega)).trans h.tok
  exact ⟨h1.cell 0, h2.cell 1, h2.cell 2⟩
theorem PS.bad (h : PS w W n3 B T E tv dp ns t k) (hB : B < w.heap.size) {tmps : Array Value} {cd at_ : Int} (ha : Aside1 B W W') (hl : Left W' B E tv) :
    Leaves Tryz.prog Tryz.f136 tmps (Does w B T E tv dp ns ExIs (.bad cd at_)) [{ target := .fn (.func 187) #[.pointer (some ⟨w.heap.size, 0, none⟩)], args := #[] }] (.panicking [{ v := stopV cd at_, recovered := false }]) W' :=
  prim_bad hB (h.aside.trans ha) hl ((h.ptr.aside ha (by omega)).cell 0)
end
end Go.Proofs.YtmepcmnpmhhiiaaGreatDoor
namespace Go.Proofs.YtmepcmnpmhhiiaaGreatDoor
open Go.RowKit Go.Maps
set_option linter.unusedVariables false
set_option linter.unusedSimpArgs false

/-- A label, cell by cell. -/
theorem Lbl.at {W : World} {l : Lab} {v : Value} (h : Lbl W l v) : ∃ (b o c : Nat) (p : Option Addr), v = .slice p l.length c ∧ l.length ≤ 9223372036854775807 ∧ (0 < l.length → p = some ⟨b, o, none⟩) ∧
    ∀ (i : Nat) (hi : i < l.length), ∃ pr cr, Strs W l[i].2 (.slice pr l[i].2.length cr) ∧ W.cell? ⟨b, o + i * 2, none⟩ = some (.string l[i].1) ∧ W.cell? ⟨b, o + i * 2 + 1, none⟩ = some (.slice pr l[i].2.length cr) := by
  obtain ⟨b, o, c, p, e, h1, h2, h3, h4⟩ := h.cells
  refine ⟨b, o, c, p, e, by omega, h3, fun i hi => ?_⟩
  obtain ⟨u, g1, g2, g3⟩ := h4 i hi
  obtain ⟨pr, cr, rfl, g4⟩ := g3
  exact ⟨pr, cr, ⟨pr, cr, rfl, g4⟩, g1, g2⟩
/-- Each two are told alike or not. -/
def TellsEqPol (w : World) (l m : Lab) (fn : FuncId) (cap : Array Value) : Prop := ∀ (k : Nat) (h1 : k < l.length) (h2 : k < m.length) (W : World) (va vb : Value), Below w.heap.size w W → PolIs W l[k] va → PolIs W m[k] vb → Calls Tryz.prog fn (#[va, vb] ++ cap) W fun e w' => e = .returned (.bool (samePol l[k] m[k])) ∧ Below W.heap.size W w'
set_option maxHeartbeats 2000000 in
set_option maxRecDepth 100000 in
theorem equalPol_calls (l m : Lab) (v u : Value) (fn : FuncId) (cap : Array Value) (w : World) (hv : Lbl w l v) (hu : Lbl w m u) (eg : ∀ args w, (callFunc fn args).run Tryz.prog w = .ok (.enter fn args) w) (hq : TellsEqPol w l m fn cap) :
    Calls Tryz.prog 50 #[v, u, .func (.func fn) #[] cap] w fun e w' => e = .returned (.bool (eqF samePol l m)) ∧ Below w.heap.size w w' := by
  obtain ⟨b, o, c, p, rfl, hmax, hp, hl⟩ := hv.at
  obtain ⟨b', o', c', p', rfl, hmax', hp', hl'⟩ := hu.at
  have HL := Lib.hid hl
  have HL' := Lib.hid hl'
  have HP := Lib.hid hp
  have HP' := Lib.hid hp'
  have HQ := Lib.hid hq
  clear hl hl' hp hp' hq hv hu
  by_cases hlen : l.length = m.length
  · have hle : (l.length : Int) = (m.length : Int) := by omega
    have hle2 : ((l.length : Int) != (m.length : Int)) = false := by simp [hle]
    have hle3 : ((l.length : Int) == (m.length : Int)) = true := by simp [hle]
    clear hle
    have HLEN := Lib.hid hlen
    clear hlen
    go_enter Tryz.func50, Tryz.ntmps50
    go_wp2_with (fail)
    go_loopw [7, 8, 9, 17] (fun _ _ _ i ws => ∃ (k : Nat) (wo : World), k ≤ l.length ∧ i = .int .i64 k ∧ wo = ws ∧ Hid (Below w.heap.size w wo) ∧ Hid (∀ j (h1 : j < l.length) (h2 : j < m.length), j < k → samePol l[j] m[j] = true)) (fun _ _ _ i _ => l.length - (intOf i).toNat)
    case atStart => exact ⟨0, _, Nat.zero_le _, rfl, rfl, Below.refl _ _, fun j _ _ h => absurd h (by omega)⟩
    case round =>
      obtain ⟨k, wo, hk, rfl, rfl, HB, HA⟩ := hrel
      by_cases hlt : k < l.length
      · have hlt2 : k < m.length := by have := HLEN.out; omega
        obtain ⟨pr, cr, s1, z0, z1⟩ := HL.out k hlt
        obtain ⟨prb, crb, s1b, z0b, z1b⟩ := HL'.out k hlt2
        have hbk := keeps_of_below HB.out
        have q0 := hbk.2 _ _ _ z0
        have r0 := hbk.2 _ _ _ z0b
        have q1 := hbk.2 _ _ _ z1
        have r1 := hbk.2 _ _ _ z1b
        obtain rfl := HP.out (by omega)
        obtain rfl := HP'.out (by omega)
        have hki : (k : Int) < (l.length : Int) := by omega
        have hki2 : (k : Int) < (m.length : Int) := by omega
        have hk0 : (0 : Int) ≤ (k : Int) := by omega
        have hkm : (k : Int) + 1 ≤ 9223372036854775807 := by omega
        have HAT : Hid (samePol l[k] m[k] = false → eqF samePol l m = false) := fun h => eqF_at k hlt hlt2 h
        have HAN : Hid (samePol l[k] m[k] = true → ∀ j (h1 : j < l.length) (h2 : j < m.length), j < k + 1 → samePol l[j] m[j] = true) := fun h j h1 h2 h3 => by
          rcases Nat.lt_or_ge j k with h4 | h4
          · exact HA.out j h1 h2 h4
          · obtain rfl : j = k := by omega
            exact h
        have HQK : Hid (∀ (W : World) (va vb : Value), Below w.heap.size w W → PolIs W l[k] va → PolIs W m[k] vb → Calls Tryz.prog fn (#[va, vb] ++ cap) W fun e w' => e = .returned (.bool (samePol l[k] m[k])) ∧ Below W.heap.size W w') := HQ.out k hlt hlt2
        have HLT := Lib.hid hlt
        generalize l[k] = x at *
        generalize m[k] = y at *
        obtain ⟨Wa, eWa⟩ : ∃ Wa, wo.alloc (.cells #[.string x.1, .slice pr x.2.length cr] 77) = Wa := ⟨_, rfl⟩
        have hba : Below wo.heap.size wo Wa := by rw [← eWa]; exact (Below.refl _ _).alloc (Nat.le_refl _) _
        have hXa : Blk Wa wo.heap.size [.string x.1, .slice pr x.2.length cr] 77 := by rw [← eWa]; exact Blk.new _ _ _
        obtain ⟨W2, eW⟩ : ∃ W2, Wa.alloc (.cells #[.string y.1, .slice prb y.2.length crb] 77) = W2 := ⟨_, rfl⟩
        have hbb : Below Wa.heap.size Wa W2 := by rw [← eW]; exact (Below.refl _ _).alloc (Nat.le_refl _) _
        have hb2 : Below wo.heap.size wo W2 := hba.trans (hbb.mono hba.size)
        have hX := hXa.below hbb
        have hY : Blk W2 Wa.heap.size [.string y.1, .slice prb y.2.length crb] 77 := by rw [← eW]; exact Blk.new _ _ _
        have hka := keeps_of_below hba
        replace r0 := hka.2 _ _ _ r0
        replace r1 := hka.2 _ _ _ r1
        have d0 := hX.cell 0
        have f0 := hY.cell 0
        have d1 := hX.cell 1
        have f1 := hY.cell 1
        simp only [List.getElem?_cons_zero, List.getElem?_cons_succ] at d0 f0 d1 f1
        have hk2 := hbk.trans (keeps_of_below hb2)
        have HBW := Lib.hid (HB.out.trans (hb2.mono HB.out.size))
        have HC := Lib.hid (HQK.out W2 (.agg #[.string x.1, .slice pr x.2.length cr]) (.agg #[.string y.1, .slice prb y.2.length crb]) HBW.out ⟨_, rfl, s1.stays hk2⟩ ⟨_, rfl, s1b.stays hk2⟩)
        clear z0 z0b z1 z1b s1 s1b hbk hk2 hb2 hX hY hba hbb hXa hka hlt hlt2 hk HQK
        cases hs : samePol x y with
        | true =>
          have HN := Lib.hid (HAN.out hs)
          rw [hs] at HC
          clear hs HAT HAN
          go_wp2_with (fail)
          refine HC.out.mono ?_
          rintro e w3 ⟨rfl, hb3⟩
          have HB3 := Lib.hid (HBW.out.trans (hb3.mono HBW.out.size))
          clear hb3
          go_wp2_with (fail)
          go_roundw
          case rel => exact ⟨k + 1, _, by have h1 := HLT.out; omega, by go_num, rfl, HB3.out, HN.out⟩
          case measure => have h1 := HLT.out; simp [intOf]; omega
        | false =>
          have HN := Lib.hid (HAT.out hs)
          rw [hs] at HC
          clear hs HAT HAN
          go_wp2_with (fail)
          refine HC.out.mono ?_
          rintro e w3 ⟨rfl, hb3⟩
          have HB3 := Lib.hid (HBW.out.trans (hb3.mono HBW.out.size))
          clear hb3
          go_wp2_with (fail)
          go_ret
          exact ⟨by rw [HN.out]; rfl, HB3.out⟩
      · have hki : ¬ (k : Int) < (l.length : Int) := by omega
        have HN : Hid (eqF samePol l m = true) := eqF_all HLEN.out fun j h1 h2 => HA.out j h1 h2 (by omega)
        go_wp2_with (fail)
        go_ret
        exact ⟨by rw [HN.out]; rfl, HB.out⟩
  · have hle : ¬ (l.length : Int) = (m.length : Int) := by omega
    have hle2 : ((l.length : Int) != (m.length : Int)) = true := by simp [hle]
    have hle3 : ((l.length : Int) == (m.length : Int)) = false := by simp [hle]
    have HN : Hid (eqF samePol l m = false) := eqF_len hlen
    clear hlen
    go_enter Tryz.func50, Tryz.ntmps50
    go_wp2_with (fail)
    go_ret
    exact ⟨by rw [HN.out]; rfl, Below.refl _ _⟩
/-- Each two are told alike or not. -/
def TellsEqEx (w : World) (l m : List Ex) (fn : FuncId) (cap : Array Value) : Prop := ∀ (k : Nat) (h1 : k < l.length) (h2 : k < m.length) (W : World) (va vb : Value), Below w.heap.size w W → ExIs W l[k] va → ExIs W m[k] vb → Calls Tryz.prog fn (#[va, vb] ++ cap) W fun e w' => e = .returned (.bool (sameE l[k] m[k])) ∧ Below W.heap.size W w'
set_option maxHeartbeats 2000000 in
set_option maxRecDepth 100000 in
theorem equalEx_calls (l m : List Ex) (v u : Value) (fn : FuncId) (cap : Array Value) (w : World) (hv : Exs w l v) (hu : Exs w m u) (eg : ∀ args w, (callFunc fn args).run Tryz.prog w = .ok (.enter fn args) w) (hq : TellsEqEx w l m fn cap) :
    Calls Tryz.prog 57 #[v, u, .func (.func fn) #[] cap] w fun e w' => e = .returned (.bool (eqF sameE l m)) ∧ Below w.heap.size w w' := by
  obtain ⟨b, o, c, p, rfl, hmax, hp, hl⟩ := hv.at
  obtain ⟨b', o', c', p', rfl, hmax', hp', hl'⟩ := hu.at
  have HL := Lib.hid hl
  have HL' := Lib.hid hl'
  have HP := Lib.hid hp
  have HP' := Lib.hid hp'
  have HQ := Lib.hid hq
  clear hl hl' hp hp' hq hv hu
  by_cases hlen : l.length = m.length
  · have hle : (l.length : Int) = (m.length : Int) := by omega
    have hle2 : ((l.length : Int) != (m.length : Int)) = false := by simp [hle]
    have hle3 : ((l.length : Int) == (m.length : Int)) = true := by simp [hle]
    clear hle
    have HLEN := Lib.hid hlen
    clear hlen
    go_enter Tryz.func57, Tryz.ntmps57
    go_wp2_with (fail)
    go_loopw [7, 8, 9, 17] (fun _ _ _ i ws => ∃ (k : Nat) (wo : World), k ≤ l.length ∧ i = .int .i64 k ∧ wo = ws ∧ Hid (Below w.heap.size w wo) ∧ Hid (∀ j (h1 : j < l.length) (h2 : j < m.length), j < k → sameE l[j] m[j] = true)) (fun _ _ _ i _ => l.length - (intOf i).toNat)
    case atStart => exact ⟨0, _, Nat.zero_le _, rfl, rfl, Below.refl _ _, fun j _ _ h => absurd h (by omega)⟩
    case round =>
      obtain ⟨k, wo, hk, rfl, rfl, HB, HA⟩ := hrel
      by_cases hlt : k < l.length
      · have hlt2 : k < m.length := by have := HLEN.out; omega
        obtain ⟨pl, cl, pa, ca, s1, s2, z0, z1, z2, z3, z4, z5, z6⟩ := HL.out k hlt
        obtain ⟨plb, clb, pab, cab, s1b, s2b, z0b, z1b, z2b, z3b, z4b, z5b, z6b⟩ := HL'.out k hlt2
        have hbk := keeps_of_below HB.out
        have q0 := hbk.2 _ _ _ z0
        have r0 := hbk.2 _ _ _ z0b
        have q1 := hbk.2 _ _ _ z1
        have r1 := hbk.2 _ _ _ z1b
        have q2 := hbk.2 _ _ _ z2
        have r2 := hbk.2 _ _ _ z2b
        have q3 := hbk.2 _ _ _ z3
        have r3 := hbk.2 _ _ _ z3b
        have q4 := hbk.2 _ _ _ z4
        have r4 := hbk.2 _ _ _ z4b
        have q5 := hbk.2 _ _ _ z5
        have r5 := hbk.2 _ _ _ z5b
        have q6 := hbk.2 _ _ _ z6
        have r6 := hbk.2 _ _ _ z6b
        obtain rfl := HP.out (by omega)
        obtain rfl := HP'.out (by omega)
        have hki : (k : Int) < (l.length : Int) := by omega
        have hki2 : (k : Int) < (m.length : Int) := by omega
        have hk0 : (0 : Int) ≤ (k : Int) := by omega
        have hkm : (k : Int) + 1 ≤ 9223372036854775807 := by omega
        have HAT : Hid (sameE l[k] m[k] = false → eqF sameE l m = false) := fun h => eqF_at k hlt hlt2 h
        have HAN : Hid (sameE l[k] m[k] = true → ∀ j (h1 : j < l.length) (h2 : j < m.length), j < k + 1 → sameE l[j] m[j] = true) := fun h j h1 h2 h3 => by
          rcases Nat.lt_or_ge j k with h4 | h4
          · exact HA.out j h1 h2 h4
          · obtain rfl : j = k := by omega
            exact h
        have HQK : Hid (∀ (W : World) (va vb : Value), Below w.heap.size w W → ExIs W l[k] va → ExIs W m[k] vb → Calls Tryz.prog fn (#[va, vb] ++ cap) W fun e w' => e = .returned (.bool (sameE l[k] m[k])) ∧ Below W.heap.size W w') := HQ.out k hlt hlt2
        have HLT := Lib.hid hlt
        generalize l[k] = x at *
        generalize m[k] = y at *
        obtain ⟨Wa, eWa⟩ : ∃ Wa, wo.alloc (.cells #[.int .i64 x.kind, .int .i64 x.at_, .int .i64 x.num, .int .i64 x.ty, .string x.name, .slice pl x.lab.length cl, .slice pa x.kids.length ca] 26) = Wa := ⟨_, rfl⟩
        have hba : Below wo.heap.size wo Wa := by rw [← eWa]; exact (Below.refl _ _).alloc (Nat.le_refl _) _
        have hXa : Blk Wa wo.heap.size [.int .i64 x.kind, .int .i64 x.at_, .int .i64 x.num, .int .i64 x.ty, .string x.name, .slice pl x.lab.length cl, .slice pa x.kids.length ca] 26 := by rw [← eWa]; exact Blk.new _ _ _
        obtain ⟨W2, eW⟩ : ∃ W2, Wa.alloc (.cells #[.int .i64 y.kind, .int .i64 y.at_, .int .i64 y.num, .int .i64 y.ty, .string y.name, .slice plb y.lab.length clb, .slice pab y.kids.length cab] 26) = W2 := ⟨_, rfl⟩
        have hbb : Below Wa.heap.size Wa W2 := by rw [← eW]; exact (Below.refl _ _).alloc (Nat.le_refl _) _
        have hb2 : Below wo.heap.size wo W2 := hba.trans (hbb.mono hba.size)
        have hX := hXa.below hbb
        have hY : Blk W2 Wa.heap.size [.int .i64 y.kind, .int .i64 y.at_, .int .i64 y.num, .int .i64 y.ty, .string y.name, .slice plb y.lab.length clb, .slice pab y.kids.length cab] 26 := by rw [← eW]; exact Blk.new _ _ _
        have hka := keeps_of_below hba
        replace r0 := hka.2 _ _ _ r0
        replace r1 := hka.2 _ _ _ r1
        replace r2 := hka.2 _ _ _ r2
        replace r3 := hka.2 _ _ _ r3
        replace r4 := hka.2 _ _ _ r4
        replace r5 := hka.2 _ _ _ r5
        replace r6 := hka.2 _ _ _ r6
        have d0 := hX.cell 0
        have f0 := hY.cell 0
        have d1 := hX.cell 1
        have f1 := hY.cell 1
        have d2 := hX.cell 2
        have f2 := hY.cell 2
        have d3 := hX.cell 3
        have f3 := hY.cell 3
        have d4 := hX.cell 4
        have f4 := hY.cell 4
        have d5 := hX.cell 5
        have f5 := hY.cell 5
        have d6 := hX.cell 6
        have f6 := hY.cell 6
        simp only [List.getElem?_cons_zero, List.getElem?_cons_succ] at d0 f0 d1 f1 d2 f2 d3 f3 d4 f4 d5 f5 d6 f6
        have hk2 := hbk.trans (keeps_of_below hb2)
        have HBW := Lib.hid (HB.out.trans (hb2.mono HB.out.size))
        have HC := Lib.hid (HQK.out W2 (.agg #[.int .i64 x.kind, .int .i64 x.at_, .int .i64 x.num, .int .i64 x.ty, .string x.name, .slice pl x.lab.length cl, .slice pa x.kids.length ca]) (.agg #[.int .i64 y.kind, .int .i64 y.at_, .int .i64 y.num, .int .i64 y.ty, .string y.name, .slice plb y.lab.length clb, .slice pab y.kids.length cab]) HBW.out ⟨_, _, rfl, s1.stays hk2, s2.stays hk2⟩ ⟨_, _, rfl, s1b.stays hk2, s2b.stays hk2⟩)
        clear z0 z0b z1 z1b z2 z2b z3 z3b z4 z4b z5 z5b z6 z6b s1 s2 s1b s2b hbk hk2 hb2 hX hY hba hbb hXa hka hlt hlt2 hk HQK
        cases hs : sameE x y with
        | true =>
          have HN := Lib.hid (HAN.out hs)
          rw [hs] at HC
          clear hs HAT HAN
          go_wp2_with (fail)
          refine HC.out.mono ?_
          rintro e w3 ⟨rfl, hb3⟩
          have HB3 := Lib.hid (HBW.out.trans (hb3.mono HBW.out.size))
          clear hb3
          go_wp2_with (fail)
          go_roundw
          case rel => exact ⟨k + 1, _, by have h1 := HLT.out; omega, by go_num, rfl, HB3.out, HN.out⟩
          case measure => have h1 := HLT.out; simp [intOf]; omega
        | false =>
          have HN := Lib.hid (HAT.out hs)
          rw [hs] at HC
          clear hs HAT HAN
          go_wp2_with (fail)
          refine HC.out.mono ?_
          rintro e w3 ⟨rfl, hb3⟩
          have HB3 := Lib.hid (HBW.out.trans (hb3.mono HBW.out.size))
          clear hb3
          go_wp2_with (fail)
          go_ret
          exact ⟨by rw [HN.out]; rfl, HB3.out⟩
      · have hki : ¬ (k : Int) < (l.length : Int) := by omega
        have HN : Hid (eqF sameE l m = true) := eqF_all HLEN.out fun j h1 h2 => HA.out j h1 h2 (by omega)
        go_wp2_with (fail)
        go_ret
        exact ⟨by rw [HN.out]; rfl, HB.out⟩
  · have hle : ¬ (l.length : Int) = (m.length : Int) := by omega
    have hle2 : ((l.length : Int) != (m.length : Int)) = true := by simp [hle]
    have hle3 : ((l.length : Int) == (m.length : Int)) = false := by simp [hle]
    have HN : Hid (eqF sameE l m = false) := eqF_len hlen
    clear hlen
    go_enter Tryz.func57, Tryz.ntmps57
    go_wp2_with (fail)
    go_ret
    exact ⟨by rw [HN.out]; rfl, Below.refl _ _⟩
end Go.Proofs.YtmepcmnpmhhiiaaGreatDoor
namespace Go.Proofs.YtmepcmnpmhhiiaaGreatDoor
open Go.RowKit Go.Maps
set_option linter.unusedVariables false
set_option linter.unusedSimpArgs false

set_option maxHeartbeats 1000000 in
set_option maxRecDepth 100000 in
theorem samePol_calls (p q : Pol) (va vb : Value) (w : World) (hp : PolIs w p va) (hq : PolIs w q vb) : Calls Tryz.prog 137 #[va, vb] w fun e w' => e = .returned (.bool (samePol p q)) ∧ Below w.heap.size w w' := by
  obtain ⟨vr, rfl, hvr⟩ := hp
  obtain ⟨us, rfl, hus⟩ := hq
  obtain ⟨pr, cr, rfl, h1⟩ := hvr
  obtain ⟨ps, cs, rfl, h2⟩ := hus
  have hvr : Strs w p.2 (.slice pr p.2.length cr) := ⟨pr, cr, rfl, h1⟩
  have hus : Strs w q.2 (.slice ps q.2.length cs) := ⟨ps, cs, rfl, h2⟩
  obtain ⟨W2, eW⟩ : ∃ W2, (w.alloc (.cells #[.string p.1, .slice pr p.2.length cr] 77)).alloc (.cells #[.string q.1, .slice ps q.2.length cs] 77) = W2 := ⟨_, rfl⟩
  obtain ⟨z2, hb2, m0, m1⟩ := boxes2 eW
  have d0 : W2.cell? ⟨w.heap.size, 0, none⟩ = some (.string p.1) := m0 0
  have d1 : W2.cell? ⟨w.heap.size, 1, none⟩ = some (.slice pr p.2.length cr) := m0 1
  have f0 : W2.cell? ⟨w.heap.size + 1, 0, none⟩ = some (.string q.1) := m1 0
  have f1 : W2.cell? ⟨w.heap.size + 1, 1, none⟩ = some (.slice ps q.2.length cs) := m1 1
  have HE := Lib.hid (equalS_calls p.2 q.2 _ _ W2 (hvr.stays (keeps_of_below hb2)) (hus.stays (keeps_of_below hb2)))
  have HB2 := Lib.hid hb2
  have HR : Hid (samePol p q = ((p.1 == q.1) && (p.2 == q.2))) := rfl
  generalize (p.2 == q.2) = b2 at *
  clear hb2 m0 m1 z2 hvr hus h1 h2
  by_cases ho : p.1 = q.1
  · have HO : Hid ((p.1 == q.1) = true) := by simp [Hid, ho]
    have hl : p.1.toList = q.1.toList := by rw [ho]
    clear ho
    go_enter Tryz.func137, Tryz.ntmps137
    go_wp2_with (fail)
    refine HE.out.mono ?_
    rintro e w3 ⟨rfl, n, rfl⟩
    go_wp2_with (fail)
    go_ret
    exact ⟨by rw [HR.out, HO.out]; rfl, below_drewN HB2.out _⟩
  · have HO : Hid ((p.1 == q.1) = false) := by simp [Hid, ho]
    have hl : ¬ p.1.toList = q.1.toList := fun e => ho (bytes_eq.1 (by simp [e]))
    clear ho
    go_enter Tryz.func137, Tryz.ntmps137
    go_wp2_with (fail)
    go_ret
    exact ⟨by rw [HR.out, HO.out]; rfl, HB2.out⟩
set_option maxRecDepth 100000 in
theorem sameLab_calls (l m : Lab) (v u : Value) (w : World) (hv : Lbl w l v) (hu : Lbl w m u) : Calls Tryz.prog 56 #[v, u] w fun e w' => e = .returned (.bool (sameLab l m)) ∧ Below w.heap.size w w' := by
  have eg : ∀ args w, (callFunc 137 args).run Tryz.prog w = .ok (.enter 137 args) w := enters_at Tryz.func137 (by kernel_rfl) rfl
  have HE := Lib.hid (equalPol_calls l m v u 137 #[] w hv hu eg (fun k h1 h2 W va vb hb ha hb' => by simpa using samePol_calls l[k] m[k] va vb W ha hb'))
  have HR : Hid (sameLab l m = eqF samePol l m) := rfl
  generalize eqF samePol l m = b at *
  obtain ⟨p, c, rfl, _⟩ := hv
  obtain ⟨p', c', rfl, _⟩ := hu
  go_enter Tryz.func56, Tryz.ntmps56
  go_wp2_with (fail)
  refine HE.out.mono ?_
  rintro e w3 ⟨rfl, hb3⟩
  go_wp2_with (fail)
  go_ret
  exact ⟨by rw [HR.out]; rfl, hb3⟩
end Go.Proofs.YtmepcmnpmhhiiaaGreatDoor
namespace Go.Proofs.YtmepcmnpmhhiiaaGreatDoor
open Go.RowKit Go.Maps
set_option linter.unusedVariables false
set_option linter.unusedSimpArgs false

mutual
def deepE : Ex → Nat
  | .mk _ _ _ _ _ _ a => deepL a + 1
def deepL : List Ex → Nat
  | [] => 0
  | x :: r => max (deepE x) (deepL r)
end
theorem deepE_eq (x : Ex) : deepE x = deepL x.kids + 1 := by
  cases x
  rw [deepE]
  rfl
theorem deepL_at : ∀ {l : List Ex} {k : Nat} (h : k < l.length), deepE l[k] ≤ deepL l
  | x :: r, 0, _ => by rw [deepL]; exact Nat.le_max_left _ _
  | x :: r, k + 1, h => by
    rw [deepL]
    exact Nat.le_trans (deepL_at (l := r) (k := k) (by simpa using h)) (Nat.le_max_right _ _)
theorem sameE_eq (x y : Ex) : sameE x y = ((x.kind == y.kind) && (x.num == y.num) && (x.ty == y.ty) && (x.name == y.name) && sameLab x.lab y.lab && sameL x.kids y.kids) := by
  cases x
  rw [sameE]
  rfl
set_option maxHeartbeats 2000000 in
set_option maxRecDepth 100000 in
theorem same_step (x y : Ex) (va vb : Value) (w : World) (hx : ExIs w x va) (hy : ExIs w y vb)
    (hkids : ∀ (W : World) (v u : Value), Exs W x.kids v → Exs W y.kids u → Calls Tryz.prog 57 #[v, u, .func (.func 17) #[] #[]] W fun e w' => e = .returned (.bool (sameL x.kids y.kids)) ∧ Below W.heap.size W w') :
    Calls Tryz.prog 17 #[va, vb] w fun e w' => e = .returned (.bool (sameE x y)) ∧ Below w.heap.size w w' := by
  obtain ⟨vl, wa, rfl, hl, ha⟩ := hx
  obtain ⟨pl, cl, rfl, h1⟩ := hl
  obtain ⟨pa, ca, rfl, h2⟩ := ha
  have hl : Lbl w x.lab (.slice pl x.lab.length cl) := ⟨pl, cl, rfl, h1⟩
  have ha : Exs w x.kids (.slice pa x.kids.length ca) := ⟨pa, ca, rfl, h2⟩
  obtain ⟨vl, wa, rfl, hl', ha'⟩ := hy
  obtain ⟨pl', cl', rfl, h1'⟩ := hl'
  obtain ⟨pa', ca', rfl, h2'⟩ := ha'
  have hl' : Lbl w y.lab (.slice pl' y.lab.length cl') := ⟨pl', cl', rfl, h1'⟩
  have ha' : Exs w y.kids (.slice pa' y.kids.length ca') := ⟨pa', ca', rfl, h2'⟩
  clear h1 h2 h1' h2'
  obtain ⟨W2, eW⟩ : ∃ W2, (w.alloc (.cells #[.int .i64 x.kind, .int .i64 x.at_, .int .i64 x.num, .int .i64 x.ty, .string x.name, .slice pl x.lab.length cl, .slice pa x.kids.length ca] 26)).alloc (.cells #[.int .i64 y.kind, .int .i64 y.at_, .int .i64 y.num, .int .i64 y.ty, .string y.name, .slice pl' y.lab.length cl', .slice pa' y.kids.length ca'] 26) = W2 := ⟨_, rfl⟩
  obtain ⟨z2, hb2, m0, m1⟩ := boxes2 eW
  have hB : Blk W2 w.heap.size (exC x (.slice pl x.lab.length cl) (.slice pa x.kids.length ca)) 26 := by rw [← eW]; exact (Blk.new _ _ _).below ((Below.refl _ _).alloc (Nat.le_refl _) _)
  have hC : Blk W2 (w.heap.size + 1) (exC y (.slice pl' y.lab.length cl') (.slice pa' y.kids.length ca')) 26 := by rw [← eW]; exact Blk.new2 _ _ _ _ _
  obtain ⟨q0, q1, q2, q3, q4, q5, q6⟩ := hB.cells7
  obtain ⟨r0, r1, r2, r3, r4, r5, r6⟩ := hC.cells7
  have hk := keeps_of_below hb2
  have HL := Lib.hid (sameLab_calls x.lab y.lab _ _ W2 (hl.stays hk) (hl'.stays hk))
  have HK : Hid (∀ W, Below W2.heap.size W2 W → Blk W w.heap.size (exC x (.slice pl x.lab.length cl) (.slice pa x.kids.length ca)) 26 ∧ Blk W (w.heap.size + 1) (exC y (.slice pl' y.lab.length cl') (.slice pa' y.kids.length ca')) 26 ∧ Calls Tryz.prog 57 #[.slice pa x.kids.length ca, .slice pa' y.kids.length ca', .func (.func 17) #[] #[]] W fun e w' => e = .returned (.bool (sameL x.kids y.kids)) ∧ Below W.heap.size W w') := fun W hb => by
    have hk3 := hk.trans (keeps_of_below hb)
    exact ⟨hB.below hb, hC.below hb, hkids W _ _ (ha.stays hk3) (ha'.stays hk3)⟩
  have HB2 := Lib.hid hb2
  have HR := Lib.hid (sameE_eq x y)
  clear hkids hB hC hk hb2 m0 m1 z2 ha ha' hl hl'
  generalize sameLab x.lab y.lab = b1 at *
  generalize sameL x.kids y.kids = b2 at *
  by_cases c1 : x.kind = y.kind
  · have C1 : Hid ((x.kind == y.kind) = true) := by simp [Hid, c1]
    have d1 : (x.kind == y.kind) = true := C1
    clear c1
    by_cases c2 : x.num = y.num
    · have C2 : Hid ((x.num == y.num) = true) := by simp [Hid, c2]
      have d2 : (x.num == y.num) = true := C2
      clear c2
      by_cases c3 : x.ty = y.ty
      · have C3 : Hid ((x.ty == y.ty) = true) := by simp [Hid, c3]
        have d3 : (x.ty == y.ty) = true := C3
        clear c3
        by_cases c4 : x.name = y.name
        · have C4 : Hid ((x.name == y.name) = true) := by simp [Hid, c4]
          have hs : x.name.toList = y.name.toList := by rw [c4]
          clear c4
          cases b1 with
          | true =>
            go_enter Tryz.func17, Tryz.ntmps17
            go_wp2_with (fail)
            refine HL.out.mono ?_
            rintro e w3 ⟨rfl, hb3⟩
            obtain ⟨hB3, hC3, hK3⟩ := HK.out w3 hb3
            obtain ⟨q0, q1, q2, q3, q4, q5, q6⟩ := hB3.cells7
            obtain ⟨r0, r1, r2, r3, r4, r5, r6⟩ := hC3.cells7
            have HK3 := Lib.hid hK3
            have HB3 := Lib.hid (HB2.out.trans (hb3.mono HB2.out.size))
            clear hB3 hC3 hK3 hb3
            go_wp2_with (fail)
            refine HK3.out.mono ?_
            rintro e w4 ⟨rfl, hb4⟩
            have HB4 := Lib.hid (HB3.out.trans (hb4.mono HB3.out.size))
            clear hb4
            go_wp2_with (fail)
            go_ret
            exact ⟨by rw [HR.out, C1.out, C2.out, C3.out, C4.out]; rfl, HB4.out⟩
          | false =>
            go_enter Tryz.func17, Tryz.ntmps17
            go_wp2_with (fail)
            refine HL.out.mono ?_
            rintro e w3 ⟨rfl, hb3⟩
            have HB3 := Lib.hid (HB2.out.trans (hb3.mono HB2.out.size))
            clear hb3
            go_wp2_with (fail)
            go_ret
            exact ⟨by rw [HR.out, C1.out, C2.out, C3.out, C4.out]; rfl, HB3.out⟩
        · have C4 : Hid ((x.name == y.name) = false) := by simp [Hid, c4]
          have hs : ¬ x.name.toList = y.name.toList := fun e => c4 (bytes_eq.1 (by simp [e]))
          clear c4
          go_enter Tryz.func17, Tryz.ntmps17
          go_wp2_with (fail)
          go_ret
          exact ⟨by rw [HR.out, C1.out, C2.out, C3.out, C4.out]; rfl, HB2.out⟩
      · have C3 : Hid ((x.ty == y.ty) = false) := by simp [Hid, c3]
        have d3 : (x.ty == y.ty) = false := C3
        go_enter Tryz.func17, Tryz.ntmps17
        go_wp2_with (fail)
        go_ret
        exact ⟨by rw [HR.out, C1.out, C2.out, C3.out]; rfl, HB2.out⟩
    · have C2 : Hid ((x.num == y.num) = false) := by simp [Hid, c2]
      have d2 : (x.num == y.num) = false := C2
      go_enter Tryz.func17, Tryz.ntmps17
      go_wp2_with (fail)
      go_ret
      exact ⟨by rw [HR.out, C1.out, C2.out]; rfl, HB2.out⟩
  · have C1 : Hid ((x.kind == y.kind) = false) := by simp [Hid, c1]
    have d1 : (x.kind == y.kind) = false := C1
    go_enter Tryz.func17, Tryz.ntmps17
    go_wp2_with (fail)
    go_ret
    exact ⟨by rw [HR.out, C1.out]; rfl, HB2.out⟩
theorem same_deep : ∀ (n : Nat) (x y : Ex) (va vb : Value) (w : World), deepE x ≤ n → ExIs w x va → ExIs w y vb → Calls Tryz.prog 17 #[va, vb] w fun e w' => e = .returned (.bool (sameE x y)) ∧ Below w.heap.size w w'
  | 0, x, y, va, vb, w, hn, hx, hy => by rw [deepE_eq] at hn; omega
  | n + 1, x, y, va, vb, w, hn, hx, hy => by
    refine same_step x y va vb w hx hy fun W v u hv hu => ?_
    rw [sameL_eqF]
    have eg : ∀ args w, (callFunc 17 args).run Tryz.prog w = .ok (.enter 17 args) w := enters_at Tryz.func17 (by kernel_rfl) rfl
    refine equalEx_calls x.kids y.kids v u 17 #[] W hv hu eg fun k h1 h2 W' va vb hb hva hvb => ?_
    rw [deepE_eq] at hn
    have hd := deepL_at h1
    simpa using same_deep n x.kids[k] y.kids[k] va vb W' (by omega) hva hvb
theorem same_calls (x y : Ex) (va vb : Value) (w : World) (hx : ExIs w x va) (hy : ExIs w y vb) : Calls Tryz.prog 17 #[va, vb] w fun e w' => e = .returned (.bool (sameE x y)) ∧ Below w.heap.size w w' := same_deep _ x y va vb w (Nat.le_refl _) hx hy
end Go.Proofs.YtmepcmnpmhhiiaaGreatDoor
namespace Go.Proofs.YtmepcmnpmhhiiaaGreatDoor
open Go.RowKit Go.Maps
set_option linter.unusedVariables false
set_option linter.unusedSimpArgs false

/-- What the library's table of the longest index holds: some number. -/
def MaxL (w : World) : Prop := ∃ m : Int, w.cell? ⟨0, 0, none⟩ = some (.int .i64 m)
theorem MaxL.below {w w' : World} (h : MaxL w) (hb : Below w.heap.size w w') : MaxL w' := by
  obtain ⟨m, h⟩ := h
  exact ⟨m, (hb.cell (cell_lt h)).trans h⟩
theorem refNameM_calls (s : Txt) (w : World) (hs : okTxt s) (hm : MaxL w) : Calls Tryz.prog 96 #[.string s] w fun e w' => e = .returned (.bool (isName s)) ∧ Below w.heap.size w w' := by
  obtain ⟨m, hm⟩ := hm
  exact refName_calls s m w hs hm
theorem refNot_calls (s : Txt) (w : World) (hs : okTxt s) (hm : MaxL w) : Calls Tryz.prog 170 #[.string s] w fun e w' => e = .returned (.bool (!isName s)) ∧ Below w.heap.size w w' := by
  have HN := Lib.hid (refNameM_calls s w hs hm)
  generalize isName s = b at *
  go_enter Tryz.func170, Tryz.ntmps170
  go_wp2_with (fail)
  refine HN.out.mono ?_
  rintro e w1 ⟨rfl, hb⟩
  go_wp2_with (fail)
  go_ret
  exact ⟨rfl, hb⟩
def polBad (p : Pol) : Bool := !isName p.1 || anyBy p.2 fun s => !isName s
def formLR (l : Lab) : Bool := !longL l && !anyBy l polBad
theorem anyBy_at {α : Type} {l : List α} {q : α → Bool} {k : Nat} (hk : k < l.length) (h : q l[k] = true) : anyBy l q = true := List.any_eq_true.2 ⟨_, List.getElem_mem hk, h⟩
theorem anyBy_none {α : Type} {l : List α} {q : α → Bool} (h : ∀ j (hj : j < l.length), q l[j] = false) : anyBy l q = false := by
  unfold anyBy
  rw [List.any_eq_false]
  intro x hx
  obtain ⟨j, hj, rfl⟩ := List.getElem_of_mem hx
  rw [h j hj]
  simp
theorem txt12 {s : Txt} (h : s.size ≤ 12) : okTxt s := by unfold okTxt; omega
set_option maxHeartbeats 2000000 in
set_option maxRecDepth 100000 in
theorem formLabel_calls (l : Lab) (v : Value) (w : World) (hv : Lbl w l v) (hm : MaxL w) :
    Calls Tryz.prog 97 #[v] w fun e w' => e = .returned (.bool (formLR l)) ∧ Below w.heap.size w w' := by
  have HLG := Lib.hid (longLabel_calls l v w hv)
  have HR : Hid (formLR l = (!longL l && !anyBy l polBad)) := rfl
  obtain ⟨b, o, c, p, rfl, hmax, hp, hl⟩ := hv.at
  have HL := Lib.hid hl
  have HP := Lib.hid hp
  have HM := Lib.hid hm
  clear hl hp hv hm
  cases hlg : longL l with
  | true =>
    rw [hlg] at HLG HR
    go_enter Tryz.func97, Tryz.ntmps97
    go_wp2_with (fail)
    refine HLG.out.mono ?_
    rintro e w1 ⟨rfl, hb⟩
    go_wp2_with (fail)
    go_ret
    exact ⟨by rw [HR.out]; rfl, hb⟩
  | false =>
    have HSZ := Lib.hid (longL_false hlg)
    rw [hlg] at HLG HR
    clear hlg
    have eg : ∀ args w, (callFunc 170 args).run Tryz.prog w = .ok (.enter 170 args) w := enters_at Tryz.func170 (by kernel_rfl) rfl
    have HEG := Lib.hid eg
    clear eg
    go_enter Tryz.func97, Tryz.ntmps97
    go_wp2_with (fail)
    refine HLG.out.mono ?_
    rintro e w1 ⟨rfl, hb⟩
    have HB1 := Lib.hid hb
    clear hb
    go_wp2_with (fail)
    go_loopw [4, 9] (fun _ i ws => ∃ (k : Nat) (wo : World), k ≤ l.length ∧ i = .int .i64 k ∧ wo = ws ∧ Hid (Below w.heap.size w wo) ∧ Hid (∀ j (hj : j < l.length), j < k → polBad l[j] = false)) (fun _ i _ => l.length - (intOf i).toNat)
    case atStart => exact ⟨0, _, Nat.zero_le _, rfl, rfl, HB1.out, fun j _ h => absurd h (by omega)⟩
    case round =>
      obtain ⟨k, wo, hk, rfl, rfl, HB, HA⟩ := hrel
      by_cases hlt : k < l.length
      · obtain ⟨pr, cr, s1, z0, z1⟩ := HL.out k hlt
        have hbk := keeps_of_below HB.out
        have q0 := hbk.2 _ _ _ z0
        have q1 := hbk.2 _ _ _ z1
        obtain rfl := HP.out (by omega)
        have hki : (k : Int) < (l.length : Int) := by omega
        have hk0 : (0 : Int) ≤ (k : Int) := by omega
        have hkm : (k : Int) + 1 ≤ 9223372036854775807 := by omega
        obtain ⟨t1, t2, t3⟩ := longP_false (HSZ.out.2 k hlt)
        have HAT : Hid (polBad l[k] = true → anyBy l polBad = true) := fun h => anyBy_at hlt h
        have HAN : Hid (polBad l[k] = false → ∀ j (hj : j < l.length), j < k + 1 → polBad l[j] = false) := fun h j h1 h3 => by
          rcases Nat.lt_or_ge j k with h4 | h4
          · exact HA.out j h1 h4
          · obtain rfl : j = k := by omega
            exact h
        have HLT := Lib.hid hlt
        generalize l[k] = x at *
        obtain ⟨W2, eW⟩ : ∃ W2, wo.alloc (.cells #[.string x.1, .slice pr x.2.length cr] 77) = W2 := ⟨_, rfl⟩
        have hb2 : Below wo.heap.size wo W2 := by rw [← eW]; exact (Below.refl _ _).alloc (Nat.le_refl _) _
        have hX : Blk W2 wo.heap.size [.string x.1, .slice pr x.2.length cr] 77 := by rw [← eW]; exact Blk.new _ _ _
        have HBW := Lib.hid (HB.out.trans (hb2.mono HB.out.size))
        have d0 := hX.cell 0
        have d1 := hX.cell 1
        simp only [List.getElem?_cons_zero, List.getElem?_cons_succ] at d0 d1
        have hs2 := (s1.stays hbk).stays (keeps_of_below hb2)
        have HXB : Hid (∀ W, Below W2.heap.size W2 W → W.cell? ⟨wo.heap.size, 1, none⟩ = some (.slice pr x.2.length cr) ∧ Calls Tryz.prog 169 #[.slice pr x.2.length cr, .func (.func 170) #[] #[]] W fun e w' => e = .returned (.bool (anyBy x.2 fun s => !isName s)) ∧ Below W.heap.size W w') := fun W hb => by
          refine ⟨?_, containsFunc_calls x.2 _ 170 #[] (fun s => !isName s) W (hs2.stays (keeps_of_below hb)) HEG.out fun y hy W' hb' => ?_⟩
          · have := (hX.below hb).cell 1
            simpa using this
          · simpa using refNot_calls y W' (txt12 (t3 y hy)) (((HM.out.below HBW.out).below (hb.mono (by exact Nat.le_refl _))).below hb')
        have HNC := Lib.hid (refNameM_calls x.1 W2 (txt12 t2) (HM.out.below HBW.out))
        have HPB : Hid (polBad x = (!isName x.1 || anyBy x.2 fun s => !isName s)) := rfl
        clear z0 z1 s1 hbk hb2 hX hs2 hlt hk t1 t2 t3
        generalize (anyBy x.2 fun s => !isName s) = b2 at *
        cases hn : isName x.1 with
        | false =>
          rw [hn] at HNC HPB
          have HE : Hid (anyBy l polBad = true) := HAT.out (by rw [HPB.out]; rfl)
          clear hn HAT HAN
          go_wp2_with (fail)
          refine HNC.out.mono ?_
          rintro e w3 ⟨rfl, hb3⟩
          have HB3 := Lib.hid (HBW.out.trans (hb3.mono HBW.out.size))
          clear hb3
          go_wp2_with (fail)
          go_ret
          exact ⟨by rw [HR.out, HE.out]; rfl, HB3.out⟩
        | true =>
          rw [hn] at HNC HPB
          cases b2 with
          | true =>
            have HE : Hid (anyBy l polBad = true) := HAT.out (by rw [HPB.out]; rfl)
            clear hn HAT HAN
            go_wp2_with (fail)
            refine HNC.out.mono ?_
            rintro e w3 ⟨rfl, hb3⟩
            obtain ⟨g1, hcc⟩ := HXB.out w3 hb3
            have HCC := Lib.hid hcc
            have HB3 := Lib.hid (HBW.out.trans (hb3.mono HBW.out.size))
            clear hb3 hcc
            go_wp2_with (fail)
            refine HCC.out.mono ?_
            rintro e w4 ⟨rfl, hb4⟩
            have HB4 := Lib.hid (HB3.out.trans (hb4.mono HB3.out.size))
            clear hb4
            go_wp2_with (fail)
            go_ret
            exact ⟨by rw [HR.out, HE.out]; rfl, HB4.out⟩
          | false =>
            have HN := Lib.hid (HAN.out (by rw [HPB.out]; rfl))
            clear hn HAT HAN
            go_wp2_with (fail)
            refine HNC.out.mono ?_
            rintro e w3 ⟨rfl, hb3⟩
            obtain ⟨g1, hcc⟩ := HXB.out w3 hb3
            have HCC := Lib.hid hcc
            have HB3 := Lib.hid (HBW.out.trans (hb3.mono HBW.out.size))
            clear hb3 hcc
            go_wp2_with (fail)
            refine HCC.out.mono ?_
            rintro e w4 ⟨rfl, hb4⟩
            have HB4 := Lib.hid (HB3.out.trans (hb4.mono HB3.out.size))
            clear hb4
            go_wp2_with (fail)
            go_roundw
            case rel => exact ⟨k + 1, _, by have h1 := HLT.out; omega, by go_num, rfl, HB4.out, HN.out⟩
            case measure => have h1 := HLT.out; simp [intOf]; omega
      · have hki : ¬ (k : Int) < (l.length : Int) := by omega
        have HE : Hid (anyBy l polBad = false) := anyBy_none fun j hj => HA.out j hj (by omega)
        go_wp2_with (fail)
        go_ret
        exact ⟨by rw [HR.out, HE.out]; rfl, HB.out⟩
end Go.Proofs.YtmepcmnpmhhiiaaGreatDoor
namespace Go.Proofs.YtmepcmnpmhhiiaaGreatDoor
open Go.RowKit Go.Maps Go.WideMaps Go.WideElems Go.WideShapes
set_option linter.unusedVariables false
set_option linter.unusedSimpArgs false

def keyS (s : Txt) : Lit := .string s.data.toList
theorem law_str : Keyed Tryz.prog 9 := string_keyed Tryz.underlying9
theorem key_str {s : Txt} (h : okTxt s) : keyOf Tryz.prog 9 (.string s) = some (keyS s) := keyOf_string_mk Tryz.underlying9 (by unfold okTxt at h; unfold maxLen; omega)
theorem zero_int (w : World) : (zeroValue 3).run Tryz.prog w = .ok (.int .i64 0) w := by kernel_rfl
theorem keyS_inj {a b : Txt} (h : keyS a = keyS b) : a = b := by
  unfold keyS at h
  simp only [Lit.string.injEq] at h
  cases a; cases b
  congr
  exact Array.toList_inj.1 h
end Go.Proofs.YtmepcmnpmhhiiaaGreatDoor
namespace Go.Proofs.YtmepcmnpmhhiiaaGreatDoor
open Go.RowKit Go.Maps Go.WideMaps Go.WideElems Go.WideShapes
set_option linter.unusedVariables false
set_option linter.unusedSimpArgs false

/-- A map of texts and numbers that reads as `f`. -/
def MapF (W : World) (b n : Nat) (f : Txt → Int) : Prop := ∃ D : DataW Unit, W.ownsMap Tryz.prog 9 (plainElem Tryz.prog 3) b n D ∧ ∀ x, D.atKey (keyS x) (.lit (.int .i64 0)) = .lit (.int .i64 (f x))
theorem MapF.start (w : World) : MapF (w.alloc (.map #[] 0)) w.heap.size 0 (fun _ => 0) := ⟨.map [], World.ownsMap_made (H := Unit) w Tryz.prog 9 _, fun x => rfl⟩
set_option maxRecDepth 100000 in
theorem MapF.put {W : World} {b n : Nat} {f : Txt → Int} (h : MapF W b n f) (hn : n < 100) {k : Txt} (hk : k.size ≤ 100) {c : Int} (hc : (Lit.int .i64 c).wf = true) :
    ∃ W', (Instr.mapUpdate 98 (.map (some b)) (.string k) (.int .i64 c)).run Tryz.prog W = .ok () W' ∧ MapF W' b (n + 1) (fun x => if x = k then c else f x) ∧ W.grownBy W' (some b) := by
  obtain ⟨D, ho, hf⟩ := h
  have hok : okTxt k := by unfold okTxt; omega
  obtain ⟨W', g1, g2, g3⟩ := ho.update law_str Tryz.underlying98 (by unfold maxLen; omega) (key_str hok) (plainElem_int Tryz.underlying3 hc)
  refine ⟨W', g1, ⟨_, g2, fun x => ?_⟩, g3⟩
  by_cases e : x = k
  · subst e
    simp only [if_true]
    rw [atKey_put_same ho.isMap (by trivial)]
  · simp only []
    rw [if_neg e, atKey_put_other (fun h => e (keyS_inj h)), hf]
set_option maxRecDepth 100000 in
theorem MapF.look {W : World} {b n : Nat} {f : Txt → Int} (h : MapF W b n f) {x : Txt} (hx : okTxt x) :
    (Instr.lookup 98 (.map (some b)) (.string x) false).run Tryz.prog W = .ok (.int .i64 (f x)) W := by
  obtain ⟨D, ho, hf⟩ := h
  obtain ⟨c, h1, h2, _⟩ := ho.lookup_int law_str Tryz.underlying98 Tryz.underlying3 (zero_int _) (key_str hx)
  rw [hf] at h2
  simp only [DataW.lit.injEq, Lit.int.injEq, true_and] at h2
  rw [h1, h2]
theorem levels_law (x : Txt) : (if x = (⟨#[37]⟩ : Txt) then (5 : Int) else if x = (⟨#[47]⟩ : Txt) then 5 else if x = (⟨#[42]⟩ : Txt) then 5 else if x = (⟨#[45]⟩ : Txt) then 4 else if x = (⟨#[43]⟩ : Txt) then 4 else
    if x = (⟨#[62, 61]⟩ : Txt) then 3 else if x = (⟨#[62]⟩ : Txt) then 3 else if x = (⟨#[60, 61]⟩ : Txt) then 3 else if x = (⟨#[60]⟩ : Txt) then 3 else if x = (⟨#[33, 61]⟩ : Txt) then 3 else if x = (⟨#[61, 61]⟩ : Txt) then 3 else
    if x = (⟨#[38, 38]⟩ : Txt) then 2 else if x = (⟨#[124, 124]⟩ : Txt) then 1 else 0) = levelT x := by
  by_cases h : x ∈ ([⟨#[37]⟩, ⟨#[47]⟩, ⟨#[42]⟩, ⟨#[45]⟩, ⟨#[43]⟩, ⟨#[62, 61]⟩, ⟨#[62]⟩, ⟨#[60, 61]⟩, ⟨#[60]⟩, ⟨#[33, 61]⟩, ⟨#[61, 61]⟩, ⟨#[38, 38]⟩, ⟨#[124, 124]⟩] : List Txt)
  · simp only [List.mem_cons, List.not_mem_nil, or_false] at h
    rcases h with rfl | rfl | rfl | rfl | rfl | rfl | rfl | rfl | rfl | rfl | rfl | rfl | rfl <;> decide +kernel
  · simp only [List.mem_cons, List.not_mem_nil, or_false, not_or] at h
    obtain ⟨h1, h2, h3, h4, h5, h6, h7, h8, h9, h10, h11, h12, h13⟩ := h
    simp [levelT, h1, h2, h3, h4, h5, h6, h7, h8, h9, h10, h11, h12, h13]
set_option maxHeartbeats 4000000 in
set_option maxRecDepth 100000 in
theorem levelOf_calls (s : Txt) (w : World) (hs : okTxt s) : Calls Tryz.prog 26 #[.string s] w fun e w' => e = .returned (.int .i64 (levelT s)) ∧ Below w.heap.size w w' := by
  have hmm := @run_makeMap Tryz.prog
  obtain ⟨W0, e0⟩ : ∃ W0, w.alloc (.map #[] 0) = W0 := ⟨_, rfl⟩
  have m0 : MapF W0 w.heap.size 0 (fun _ => 0) := by rw [← e0]; exact MapF.start w
  have b0 : Below w.heap.size w W0 := by rw [← e0]; exact (Below.refl _ _).alloc (Nat.le_refl _) _
  obtain ⟨W1, u1, m1, g1⟩ := m0.put (by omega) (k := ⟨#[124, 124]⟩) (by decide) (c := 1) (by decide)
  obtain ⟨W2, u2, m2, g2⟩ := m1.put (by omega) (k := ⟨#[38, 38]⟩) (by decide) (c := 2) (by decide)
  obtain ⟨W3, u3, m3, g3⟩ := m2.put (by omega) (k := ⟨#[61, 61]⟩) (by decide) (c := 3) (by decide)
  obtain ⟨W4, u4, m4, g4⟩ := m3.put (by omega) (k := ⟨#[33, 61]⟩) (by decide) (c := 3) (by decide)
  obtain ⟨W5, u5, m5, g5⟩ := m4.put (by omega) (k := ⟨#[60]⟩) (by decide) (c := 3) (by decide)
  obtain ⟨W6, u6, m6, g6⟩ := m5.put (by omega) (k := ⟨#[60, 61]⟩) (by decide) (c := 3) (by decide)
  obtain ⟨W7, u7, m7, g7⟩ := m6.put (by omega) (k := ⟨#[62]⟩) (by decide) (c := 3) (by decide)
  obtain ⟨W8, u8, m8, g8⟩ := m7.put (by omega) (k := ⟨#[62, 61]⟩) (by decide) (c := 3) (by decide)
  obtain ⟨W9, u9, m9, g9⟩ := m8.put (by omega) (k := ⟨#[43]⟩) (by decide) (c := 4) (by decide)
  obtain ⟨W10, u10, m10, g10⟩ := m9.put (by omega) (k := ⟨#[45]⟩) (by decide) (c := 4) (by decide)
  obtain ⟨W11, u11, m11, g11⟩ := m10.put (by omega) (k := ⟨#[42]⟩) (by decide) (c := 5) (by decide)
  obtain ⟨W12, u12, m12, g12⟩ := m11.put (by omega) (k := ⟨#[47]⟩) (by decide) (c := 5) (by decide)
  obtain ⟨W13, u13, m13, g13⟩ := m12.put (by omega) (k := ⟨#[37]⟩) (by decide) (c := 5) (by decide)
  have hlook : (Instr.lookup 98 (.map (some w.heap.size)) (.string s) false).run Tryz.prog W13 = .ok (.int .i64 (levelT s)) W13 := by
    rw [← levels_law s]
    exact m13.look hs
  have gall := (((((((((((g1.trans g2).trans g3).trans g4).trans g5).trans g6).trans g7).trans g8).trans g9).trans g10).trans g11).trans g12).trans g13
  have HB : Hid (Below w.heap.size w W13) := ⟨gall.os.trans b0.os, gall.tape.trans b0.tape, gall.output.trans b0.output, Nat.le_trans b0.size gall.size, fun i hi => (gall.block i (Nat.lt_of_lt_of_le hi b0.size) (by simp; omega)).trans (b0.block i hi)⟩
  clear m0 m1 m2 m3 m4 m5 m6 m7 m8 m9 m10 m11 m12 m13 g1 g2 g3 g4 g5 g6 g7 g8 g9 g10 g11 g12 g13 gall b0
  generalize levelT s = res at *
  go_enter Tryz.func26, Tryz.ntmps26
  go_wp2_with (fail)

  go_ret
  exact ⟨rfl, HB.out⟩
end Go.Proofs.YtmepcmnpmhhiiaaGreatDoor
namespace Go.Proofs.YtmepcmnpmhhiiaaGreatDoor
open Go.RowKit Go.Maps
set_option linter.unusedVariables false
set_option linter.unusedSimpArgs false

mutual
/-- How many an expression has. -/
def nodesE : Ex → Nat
  | .mk _ _ _ _ _ _ a => nodesL a + 1
def nodesL : List Ex → Nat
  | [] => 0
  | x :: r => nodesE x + nodesL r
end
theorem nodesE_eq (x : Ex) : nodesE x = nodesL x.kids + 1 := by
  cases x
  rw [nodesE]
  rfl
theorem nodesL_at : ∀ {l : List Ex} {k : Nat} (h : k < l.length), nodesE l[k] ≤ nodesL l
  | x :: r, 0, _ => by rw [nodesL]; exact Nat.le_add_right _ _
  | x :: r, k + 1, h => by
    rw [nodesL]
    exact Nat.le_trans (nodesL_at (l := r) (k := k) (by simpa using h)) (Nat.le_add_left _ _)
theorem nodesL_snoc : ∀ (l : List Ex) (y : Ex), nodesL (l ++ [y]) = nodesL l + nodesE y
  | [], y => by simp [nodesL]
  | x :: r, y => by
    have := nodesL_snoc r y
    simp only [List.cons_append, nodesL, this]
    omega
theorem deepL_snoc : ∀ (l : List Ex) (y : Ex), deepL (l ++ [y]) = max (deepL l) (deepE y)
  | [], y => by simp [deepL]
  | x :: r, y => by
    have := deepL_snoc r y
    simp only [List.cons_append, deepL, this]
    omega
theorem nodesL_take {l : List Ex} {k : Nat} (h : k < l.length) : nodesL (l.take (k + 1)) = nodesL (l.take k) + nodesE l[k] := by
  rw [List.take_succ_eq_append_getElem h, nodesL_snoc]
theorem deepL_take {l : List Ex} {k : Nat} (h : k < l.length) : deepL (l.take (k + 1)) = max (deepL (l.take k)) (deepE l[k]) := by
  rw [List.take_succ_eq_append_getElem h, deepL_snoc]
theorem nodesL_le_take : ∀ (l : List Ex) (k : Nat), nodesL (l.take k) ≤ nodesL l
  | [], k => by simp [nodesL]
  | x :: r, 0 => by simp [nodesL]
  | x :: r, k + 1 => by
    have := nodesL_le_take r k
    simp only [List.take_succ_cons, nodesL]
    omega
mutual
theorem deep_le_nodes : ∀ x : Ex, deepE x ≤ nodesE x
  | .mk _ _ _ _ _ _ a => by
    rw [deepE, nodesE]
    have := deepL_le_nodes a
    omega
theorem deepL_le_nodes : ∀ l : List Ex, deepL l ≤ nodesL l
  | [] => by simp [deepL]
  | x :: r => by
    rw [deepL, nodesL]
    have h1 := deep_le_nodes x
    have h2 := deepL_le_nodes r
    omega
end
set_option maxHeartbeats 2000000 in
set_option maxRecDepth 100000 in
theorem refDeep_step (x : Ex) (va : Value) (w : World) (hx : ExIs w x va) (hn : nodesE x ≤ 1048576)
    (ih : ∀ (k : Nat) (h : k < x.kids.length) (W : World) (v : Value), ExIs W x.kids[k] v → Calls Tryz.prog 27 #[v] W fun e w' => e = .returned (.int .i64 (deepE x.kids[k] : Nat)) ∧ Below W.heap.size W w') :
    Calls Tryz.prog 27 #[va] w fun e w' => e = .returned (.int .i64 (deepE x : Nat)) ∧ Below w.heap.size w w' := by
  obtain ⟨vl, wa, rfl, hl, ha⟩ := hx
  obtain ⟨pl, cl, rfl, h1⟩ := hl
  obtain ⟨b, o, c, p, rfl, hmax, hp, hkids⟩ := ha.at
  obtain ⟨W1, eW⟩ : ∃ W1, w.alloc (.cells #[.int .i64 x.kind, .int .i64 x.at_, .int .i64 x.num, .int .i64 x.ty, .string x.name, .slice pl x.lab.length cl, .slice p x.kids.length c] 26) = W1 := ⟨_, rfl⟩
  have hb1 : Below w.heap.size w W1 := by rw [← eW]; exact (Below.refl _ _).alloc (Nat.le_refl _) _
  have hB1 : Blk W1 w.heap.size (exC x (.slice pl x.lab.length cl) (.slice p x.kids.length c)) 26 := by rw [← eW]; exact Blk.new _ _ _
  obtain ⟨q0, q1, q2, q3, q4, q5, q6⟩ := hB1.cells7
  have HB1 := Lib.hid hb1
  have hn1 : nodesL x.kids ≤ 1048575 := by rw [nodesE_eq] at hn; omega
  have HN := Lib.hid hn1
  have HE : Hid (deepE x = deepL x.kids + 1) := deepE_eq x
  have HKD : Hid (∀ W, Below W1.heap.size W1 W → ∀ (i : Nat) (hi : i < x.kids.length), ∃ pl cl pa ca, ExIs W x.kids[i] (.agg #[.int .i64 x.kids[i].kind, .int .i64 x.kids[i].at_, .int .i64 x.kids[i].num, .int .i64 x.kids[i].ty, .string x.kids[i].name, .slice pl x.kids[i].lab.length cl, .slice pa x.kids[i].kids.length ca]) ∧
      W.cell? ⟨b, o + i * 7, none⟩ = some (.int .i64 x.kids[i].kind) ∧ W.cell? ⟨b, o + i * 7 + 1, none⟩ = some (.int .i64 x.kids[i].at_) ∧ W.cell? ⟨b, o + i * 7 + 2, none⟩ = some (.int .i64 x.kids[i].num) ∧ W.cell? ⟨b, o + i * 7 + 3, none⟩ = some (.int .i64 x.kids[i].ty) ∧
      W.cell? ⟨b, o + i * 7 + 4, none⟩ = some (.string x.kids[i].name) ∧ W.cell? ⟨b, o + i * 7 + 5, none⟩ = some (.slice pl x.kids[i].lab.length cl) ∧ W.cell? ⟨b, o + i * 7 + 6, none⟩ = some (.slice pa x.kids[i].kids.length ca)) := fun W h i hi => by
    have hk := (keeps_of_below hb1).trans (keeps_of_below h)
    obtain ⟨pl, cl, pa, ca, g1, g2, g3, g4, g5, g6, g7, g8, g9⟩ := hkids i hi
    exact ⟨pl, cl, pa, ca, ⟨_, _, rfl, g1.stays hk, g2.stays hk⟩, hk.2 _ _ _ g3, hk.2 _ _ _ g4, hk.2 _ _ _ g5, hk.2 _ _ _ g6, hk.2 _ _ _ g7, hk.2 _ _ _ g8, hk.2 _ _ _ g9⟩
  have HIH := Lib.hid ih
  have HP := Lib.hid hp
  clear hb1 hB1 hkids hp ha ih hn hn1 h1
  generalize x.kids = l at *
  generalize deepE x = res at *
  go_enter Tryz.func27, Tryz.ntmps27
  go_wp2_with (fail)
  clear q0 q1 q2 q3 q4 q5 q6 eW
  go_loopw [3, 5, 9] (fun n _ i ws => ∃ (k : Nat) (wo : World), k ≤ l.length ∧ n = .int .i64 ((deepL (l.take k) : Nat) : Int) ∧ i = .int .i64 k ∧ wo = ws ∧ Hid (Below W1.heap.size W1 wo)) (fun _ _ i _ => l.length - (intOf i).toNat)
  case atStart => exact ⟨0, _, Nat.zero_le _, by simp [deepL], rfl, rfl, Below.refl _ _⟩
  case round =>
    obtain ⟨k, wo, hk, rfl, rfl, rfl, HB⟩ := hrel
    by_cases hlt : k < l.length
    · obtain ⟨pl', cl', pa', ca', hy, g0, g1, g2, g3, g4, g5, g6⟩ := HKD.out wo HB.out k hlt
      have hstep := deepL_take hlt
      have hlim : deepL (l.take (k + 1)) ≤ 1048575 := by
        have h1 := HN.out
        have h2 := nodesL_le_take l (k + 1)
        have h3 := deepL_le_nodes (l.take (k + 1)); omega
      obtain rfl := HP.out (by omega)
      have hki : (k : Int) < (l.length : Int) := by omega
      have hk0 : (0 : Int) ≤ (k : Int) := by omega
      have hkm : (k : Int) + 1 ≤ 9223372036854775807 := by omega
      have HC0 := Lib.hid (HIH.out k hlt)
      generalize l[k] = y at *
      obtain ⟨W2, eW2⟩ : ∃ W2, wo.alloc (.cells #[.int .i64 y.kind, .int .i64 y.at_, .int .i64 y.num, .int .i64 y.ty, .string y.name, .slice pl' y.lab.length cl', .slice pa' y.kids.length ca'] 26) = W2 := ⟨_, rfl⟩
      have hb2 : Below wo.heap.size wo W2 := by rw [← eW2]; exact (Below.refl _ _).alloc (Nat.le_refl _) _
      have hB2 : Blk W2 wo.heap.size (exC y (.slice pl' y.lab.length cl') (.slice pa' y.kids.length ca')) 26 := by rw [← eW2]; exact Blk.new _ _ _
      have HC := Lib.hid (HC0.out W2 _ (hy.stays (keeps_of_below hb2)))
      have HB2 := Lib.hid (HB.out.trans (hb2.mono HB.out.size))
      obtain ⟨c0, c1, c2, c3, c4, c5, c6⟩ := hB2.cells7
      have HLT := Lib.hid hlt
      have HST := Lib.hid hstep
      have ho1 : deepL (l.take k) ≤ 1048575 := by rw [hstep] at hlim; omega
      have ho2 : deepE y ≤ 1048575 := by rw [hstep] at hlim; omega
      clear hb2 hB2 hy hk hlt hstep HC0
      have HLL := Lib.hid hlim
      clear hlim
      generalize deepL (l.take k) = m at *
      generalize deepE y = q at *
      have hmq : ((m : Int) + (q : Int)) ≤ 9223372036854775807 := by omega
      go_wp2_with (fail)
      refine HC.out.mono ?_
      rintro e w3 ⟨rfl, hb3⟩
      have HB3 := Lib.hid (HB2.out.trans (hb3.mono HB2.out.size))
      clear hb3
      go_wp2_with (fail)
      go_roundw
      case rel => exact ⟨k + 1, _, by have h1 := HLT.out; omega, by rw [HST.out]; (by_cases hh : m ≤ q <;> simp [hh, Nat.max_def] <;> omega), by go_num, rfl, HB3.out⟩
      case measure => have h1 := HLT.out; simp [intOf]; omega
    · have hke : k = l.length := by omega
      have hki : ¬ (k : Int) < (l.length : Int) := by omega
      have HT : Hid (deepL (l.take k) = deepL l) := by unfold Hid; rw [hke, List.take_length]
      have HLM : Hid (deepL l ≤ 1048575) := by
        unfold Hid
        have h1 := HN.out
        have h3 := deepL_le_nodes l; omega
      generalize deepL (l.take k) = m at *
      obtain rfl := HT.out
      have hm1 := HLM.out
      have hmm : ((deepL l : Nat) : Int) + 1 ≤ 9223372036854775807 := by omega
      clear hke
      generalize deepL l = m at *
      go_wp2_with (fail)
      go_ret
      exact ⟨by rw [HE.out]; simp, HB1.out.trans (HB.out.mono HB1.out.size)⟩
theorem refDeep_deep : ∀ (n : Nat) (x : Ex) (va : Value) (w : World), deepE x ≤ n → nodesE x ≤ 1048576 → ExIs w x va → Calls Tryz.prog 27 #[va] w fun e w' => e = .returned (.int .i64 (deepE x : Nat)) ∧ Below w.heap.size w w'
  | 0, x, va, w, hn, hs, hx => by rw [deepE_eq] at hn; omega
  | n + 1, x, va, w, hn, hs, hx => by
    refine refDeep_step x va w hx hs fun k h W v hv => ?_
    rw [deepE_eq] at hn
    rw [nodesE_eq] at hs
    have hd := deepL_at h
    have hd2 := nodesL_at h
    exact refDeep_deep n x.kids[k] v W (by omega) (by omega) hv
theorem refDeep_calls (x : Ex) (va : Value) (w : World) (hx : ExIs w x va) (hs : nodesE x ≤ 1048576) : Calls Tryz.prog 27 #[va] w fun e w' => e = .returned (.int .i64 (deepE x : Nat)) ∧ Below w.heap.size w w' := refDeep_deep _ x va w (Nat.le_refl _) hs hx
set_option maxHeartbeats 2000000 in
set_option maxRecDepth 100000 in
theorem refSize_step (x : Ex) (va : Value) (w : World) (hx : ExIs w x va) (hn : nodesE x ≤ 1048576)
    (ih : ∀ (k : Nat) (h : k < x.kids.length) (W : World) (v : Value), ExIs W x.kids[k] v → Calls Tryz.prog 21 #[v] W fun e w' => e = .returned (.int .i64 (nodesE x.kids[k] : Nat)) ∧ Below W.heap.size W w') :
    Calls Tryz.prog 21 #[va] w fun e w' => e = .returned (.int .i64 (nodesE x : Nat)) ∧ Below w.heap.size w w' := by
  obtain ⟨vl, wa, rfl, hl, ha⟩ := hx
  obtain ⟨pl, cl, rfl, h1⟩ := hl
  obtain ⟨b, o, c, p, rfl, hmax, hp, hkids⟩ := ha.at
  obtain ⟨W1, eW⟩ : ∃ W1, w.alloc (.cells #[.int .i64 x.kind, .int .i64 x.at_, .int .i64 x.num, .int .i64 x.ty, .string x.name, .slice pl x.lab.length cl, .slice p x.kids.length c] 26) = W1 := ⟨_, rfl⟩
  have hb1 : Below w.heap.size w W1 := by rw [← eW]; exact (Below.refl _ _).alloc (Nat.le_refl _) _
  have hB1 : Blk W1 w.heap.size (exC x (.slice pl x.lab.length cl) (.slice p x.kids.length c)) 26 := by rw [← eW]; exact Blk.new _ _ _
  obtain ⟨q0, q1, q2, q3, q4, q5, q6⟩ := hB1.cells7
  have HB1 := Lib.hid hb1
  have hn1 : nodesL x.kids ≤ 1048575 := by rw [nodesE_eq] at hn; omega
  have HN := Lib.hid hn1
  have HE : Hid (nodesE x = nodesL x.kids + 1) := nodesE_eq x
  have HKD : Hid (∀ W, Below W1.heap.size W1 W → ∀ (i : Nat) (hi : i < x.kids.length), ∃ pl cl pa ca, ExIs W x.kids[i] (.agg #[.int .i64 x.kids[i].kind, .int .i64 x.kids[i].at_, .int .i64 x.kids[i].num, .int .i64 x.kids[i].ty, .string x.kids[i].name, .slice pl x.kids[i].lab.length cl, .slice pa x.kids[i].kids.length ca]) ∧
      W.cell? ⟨b, o + i * 7, none⟩ = some (.int .i64 x.kids[i].kind) ∧ W.cell? ⟨b, o + i * 7 + 1, none⟩ = some (.int .i64 x.kids[i].at_) ∧ W.cell? ⟨b, o + i * 7 + 2, none⟩ = some (.int .i64 x.kids[i].num) ∧ W.cell? ⟨b, o + i * 7 + 3, none⟩ = some (.int .i64 x.kids[i].ty) ∧
      W.cell? ⟨b, o + i * 7 + 4, none⟩ = some (.string x.kids[i].name) ∧ W.cell? ⟨b, o + i * 7 + 5, none⟩ = some (.slice pl x.kids[i].lab.length cl) ∧ W.cell? ⟨b, o + i * 7 + 6, none⟩ = some (.slice pa x.kids[i].kids.length ca)) := fun W h i hi => by
    have hk := (keeps_of_below hb1).trans (keeps_of_below h)
    obtain ⟨pl, cl, pa, ca, g1, g2, g3, g4, g5, g6, g7, g8, g9⟩ := hkids i hi
    exact ⟨pl, cl, pa, ca, ⟨_, _, rfl, g1.stays hk, g2.stays hk⟩, hk.2 _ _ _ g3, hk.2 _ _ _ g4, hk.2 _ _ _ g5, hk.2 _ _ _ g6, hk.2 _ _ _ g7, hk.2 _ _ _ g8, hk.2 _ _ _ g9⟩
  have HIH := Lib.hid ih
  have HP := Lib.hid hp
  clear hb1 hB1 hkids hp ha ih hn hn1 h1
  generalize x.kids = l at *
  generalize nodesE x = res at *
  go_enter Tryz.func21, Tryz.ntmps21
  go_wp2_with (fail)
  clear q0 q1 q2 q3 q4 q5 q6 eW
  go_loopw [3, 5, 9] (fun n _ i ws => ∃ (k : Nat) (wo : World), k ≤ l.length ∧ n = .int .i64 ((nodesL (l.take k) : Nat) + 1 : Int) ∧ i = .int .i64 k ∧ wo = ws ∧ Hid (Below W1.heap.size W1 wo)) (fun _ _ i _ => l.length - (intOf i).toNat)
  case atStart => exact ⟨0, _, Nat.zero_le _, by simp [nodesL], rfl, rfl, Below.refl _ _⟩
  case round =>
    obtain ⟨k, wo, hk, rfl, rfl, rfl, HB⟩ := hrel
    by_cases hlt : k < l.length
    · obtain ⟨pl', cl', pa', ca', hy, g0, g1, g2, g3, g4, g5, g6⟩ := HKD.out wo HB.out k hlt
      have hstep := nodesL_take hlt
      have hlim : nodesL (l.take (k + 1)) ≤ 1048575 := by
        have h1 := HN.out
        have h2 := nodesL_le_take l (k + 1)
        omega
      obtain rfl := HP.out (by omega)
      have hki : (k : Int) < (l.length : Int) := by omega
      have hk0 : (0 : Int) ≤ (k : Int) := by omega
      have hkm : (k : Int) + 1 ≤ 9223372036854775807 := by omega
      have HC0 := Lib.hid (HIH.out k hlt)
      generalize l[k] = y at *
      obtain ⟨W2, eW2⟩ : ∃ W2, wo.alloc (.cells #[.int .i64 y.kind, .int .i64 y.at_, .int .i64 y.num, .int .i64 y.ty, .string y.name, .slice pl' y.lab.length cl', .slice pa' y.kids.length ca'] 26) = W2 := ⟨_, rfl⟩
      have hb2 : Below wo.heap.size wo W2 := by rw [← eW2]; exact (Below.refl _ _).alloc (Nat.le_refl _) _
      have hB2 : Blk W2 wo.heap.size (exC y (.slice pl' y.lab.length cl') (.slice pa' y.kids.length ca')) 26 := by rw [← eW2]; exact Blk.new _ _ _
      have HC := Lib.hid (HC0.out W2 _ (hy.stays (keeps_of_below hb2)))
      have HB2 := Lib.hid (HB.out.trans (hb2.mono HB.out.size))
      obtain ⟨c0, c1, c2, c3, c4, c5, c6⟩ := hB2.cells7
      have HLT := Lib.hid hlt
      have HST := Lib.hid hstep
      have ho1 : nodesL (l.take k) ≤ 1048575 := by rw [hstep] at hlim; omega
      have ho2 : nodesE y ≤ 1048575 := by rw [hstep] at hlim; omega
      clear hb2 hB2 hy hk hlt hstep HC0
      have HLL := Lib.hid hlim
      clear hlim
      generalize nodesL (l.take k) = m at *
      generalize nodesE y = q at *
      have hmq : ((m : Int) + (q : Int)) ≤ 9223372036854775807 := by omega
      go_wp2_with (fail)
      refine HC.out.mono ?_
      rintro e w3 ⟨rfl, hb3⟩
      have HB3 := Lib.hid (HB2.out.trans (hb3.mono HB2.out.size))
      clear hb3
      go_wp2_with (fail)
      go_roundw
      case rel => exact ⟨k + 1, _, by have h1 := HLT.out; omega, by rw [HST.out]; (congr 1; push_cast; omega), by go_num, rfl, HB3.out⟩
      case measure => have h1 := HLT.out; simp [intOf]; omega
    · have hke : k = l.length := by omega
      have hki : ¬ (k : Int) < (l.length : Int) := by omega
      have HT : Hid (nodesL (l.take k) = nodesL l) := by unfold Hid; rw [hke, List.take_length]
      have HLM : Hid (nodesL l ≤ 1048575) := by
        unfold Hid
        have h1 := HN.out
        omega
      generalize nodesL (l.take k) = m at *
      obtain rfl := HT.out
      have hm1 := HLM.out
      have hmm : ((nodesL l : Nat) : Int) + 1 ≤ 9223372036854775807 := by omega
      clear hke
      generalize nodesL l = m at *
      go_wp2_with (fail)
      go_ret
      exact ⟨by rw [HE.out]; simp, HB1.out.trans (HB.out.mono HB1.out.size)⟩
theorem refSize_deep : ∀ (n : Nat) (x : Ex) (va : Value) (w : World), deepE x ≤ n → nodesE x ≤ 1048576 → ExIs w x va → Calls Tryz.prog 21 #[va] w fun e w' => e = .returned (.int .i64 (nodesE x : Nat)) ∧ Below w.heap.size w w'
  | 0, x, va, w, hn, hs, hx => by rw [deepE_eq] at hn; omega
  | n + 1, x, va, w, hn, hs, hx => by
    refine refSize_step x va w hx hs fun k h W v hv => ?_
    rw [deepE_eq] at hn
    rw [nodesE_eq] at hs
    have hd := deepL_at h
    have hd2 := nodesL_at h
    exact refSize_deep n x.kids[k] v W (by omega) (by omega) hv
theorem refSize_calls (x : Ex) (va : Value) (w : World) (hx : ExIs w x va) (hs : nodesE x ≤ 1048576) : Calls Tryz.prog 21 #[va] w fun e w' => e = .returned (.int .i64 (nodesE x : Nat)) ∧ Below w.heap.size w w' := refSize_deep _ x va w (Nat.le_refl _) hs hx
end Go.Proofs.YtmepcmnpmhhiiaaGreatDoor
namespace Go.Proofs.YtmepcmnpmhhiiaaGreatDoor
open Go.RowKit Go.Maps Go.WideMaps Go.WideElems Go.WideShapes
set_option linter.unusedVariables false
set_option linter.unusedSimpArgs false

def topV (ty : Int) : Int := if ty = 2 then 1 else if ty = 1 then 999999999 else 0
def frmK (kind n ty : Int) (name : Txt) (l : Lab) (m : Int) : Bool :=
  if kind = 1 then decide (0 < topV ty) && decide (0 ≤ n) && decide (n ≤ topV ty) && (m == 0) && ((l.length : Int) == 0) && (name == ⟨#[]⟩)
  else if kind = 2 then (n == 0) && (ty == 0) && isName name && (m == 0) && ((l.length : Int) == 0)
  else if kind = 3 then (n == 0) && (ty == 0) && !decide (0 < (l.length : Int)) && (((m == 2) && decide (0 < levelT name)) || ((m == 1) && (name == tNot || name == tMinus)))
  else if kind = 4 then (n == 0) && (ty == 0) && isName name && decide (m ≤ 4) && ((l.length : Int) == 0)
  else if kind = 5 then (n == 0) && (ty == 0) && (name == ⟨#[]⟩) && (m == 1) && formLR l
  else false
mutual
def frmE : Ex → Bool
  | .mk k _ n t s l a => frmL a && frmK k n t s l a.length
def frmL : List Ex → Bool
  | [] => true
  | x :: r => frmE x && frmL r
end
theorem frmL_at : ∀ {l : List Ex} {k : Nat} (h : k < l.length), frmE l[k] = false → frmL l = false
  | x :: r, 0, _, h => by
    have h' : frmE x = false := h
    simp [frmL, h']
  | x :: r, k + 1, h, he => by
    have := frmL_at (l := r) (k := k) (by simpa using h) (by simpa using he)
    simp [frmL, this]
theorem frmL_all : ∀ {l : List Ex}, (∀ k (h : k < l.length), frmE l[k] = true) → frmL l = true
  | [], _ => by simp [frmL]
  | x :: r, h => by
    have h0 : frmE x = true := h 0 (by simp)
    have := frmL_all (l := r) (fun k hk => h (k + 1) (by simpa using hk))
    simp [frmL, h0, this]
/-- A map of numbers that reads as `f`. -/
def MapI (W : World) (b n : Nat) (f : Int → Int) : Prop := ∃ D : DataW Unit, W.ownsMap Tryz.prog 3 (plainElem Tryz.prog 3) b n D ∧ ∀ x, D.atKey (.int .i64 x) (.lit (.int .i64 0)) = .lit (.int .i64 (f x))
theorem law_int : Keyed Tryz.prog 3 := int_keyed Tryz.underlying3
theorem key_int {c : Int} (h : (Lit.int .i64 c).wf = true) : keyOf Tryz.prog 3 (.int .i64 c) = some (.int .i64 c) := keyOf_int_mk Tryz.underlying3 h
theorem MapI.start (w : World) : MapI (w.alloc (.map #[] 0)) w.heap.size 0 (fun _ => 0) := ⟨.map [], World.ownsMap_made (H := Unit) w Tryz.prog 3 _, fun x => rfl⟩
set_option maxRecDepth 100000 in
theorem MapI.put {W : World} {b n : Nat} {f : Int → Int} (h : MapI W b n f) (hn : n < 100) {k c : Int} (hk : (Lit.int .i64 k).wf = true) (hc : (Lit.int .i64 c).wf = true) :
    ∃ W', (Instr.mapUpdate 171 (.map (some b)) (.int .i64 k) (.int .i64 c)).run Tryz.prog W = .ok () W' ∧ MapI W' b (n + 1) (fun x => if x = k then c else f x) ∧ W.grownBy W' (some b) := by
  obtain ⟨D, ho, hf⟩ := h
  obtain ⟨W', g1, g2, g3⟩ := ho.update law_int Tryz.underlying171 (by unfold maxLen; omega) (key_int hk) (plainElem_int Tryz.underlying3 hc)
  refine ⟨W', g1, ⟨_, g2, fun x => ?_⟩, g3⟩
  by_cases e : x = k
  · subst e
    simp only [if_true]
    rw [atKey_put_same ho.isMap (by trivial)]
  · simp only []
    rw [if_neg e, atKey_put_other (fun h => e (by simpa using h)), hf]
set_option maxRecDepth 100000 in
theorem MapI.look {W : World} {b n : Nat} {f : Int → Int} (h : MapI W b n f) {x : Int} (hx : (Lit.int .i64 x).wf = true) :
    (Instr.lookup 171 (.map (some b)) (.int .i64 x) false).run Tryz.prog W = .ok (.int .i64 (f x)) W := by
  obtain ⟨D, ho, hf⟩ := h
  obtain ⟨c, h1, h2, _⟩ := ho.lookup_int law_int Tryz.underlying171 Tryz.underlying3 (zero_int _) (key_int hx)
  rw [hf] at h2
  simp only [DataW.lit.injEq, Lit.int.injEq, true_and] at h2
  rw [h1, h2]
set_option maxHeartbeats 8000000 in
set_option maxRecDepth 100000 in
theorem frm_1 (at_ n ty : Int) (name : Txt) (l : Lab) (a : List Ex) (vl va : Value) (w : World) (hl : Lbl w l vl) (ha : Exs w a va) (hm : MaxL w) (hnm : okTxt name) (hty : (Lit.int .i64 ty).wf = true)
    (ih : ∀ (k : Nat) (h : k < a.length) (W : World) (v : Value), MaxL W → ExIs W a[k] v → Calls Tryz.prog 63 #[v] W fun e w' => e = .returned (.bool (frmE a[k])) ∧ Below W.heap.size W w') :
    Calls Tryz.prog 63 #[.agg #[.int .i64 1, .int .i64 at_, .int .i64 n, .int .i64 ty, .string name, vl, va]] w fun e w' =>
      e = .returned (.bool (frmL a && (decide (0 < topV ty) && decide (0 ≤ n) && decide (n ≤ topV ty) && ((a.length : Int) == 0) && ((l.length : Int) == 0) && (name == ⟨#[]⟩)))) ∧ Below w.heap.size w w' := by
  obtain ⟨pl, cl, rfl, h1⟩ := hl
  have hl : Lbl w l (.slice pl l.length cl) := ⟨pl, cl, rfl, h1⟩
  obtain ⟨b, o, c, p, rfl, hmax, hp, hkids⟩ := ha.at
  obtain ⟨W1, eW⟩ : ∃ W1, w.alloc (.cells #[.int .i64 1, .int .i64 at_, .int .i64 n, .int .i64 ty, .string name, .slice pl l.length cl, .slice p a.length c] 26) = W1 := ⟨_, rfl⟩
  have hb1 : Below w.heap.size w W1 := by rw [← eW]; exact (Below.refl _ _).alloc (Nat.le_refl _) _
  have hB : Blk W1 w.heap.size [.int .i64 1, .int .i64 at_, .int .i64 n, .int .i64 ty, .string name, .slice pl l.length cl, .slice p a.length c] 26 := by rw [← eW]; exact Blk.new _ _ _
  have HQ : Hid (∀ W, Below W1.heap.size W1 W → W.cell? ⟨w.heap.size, 0, none⟩ = some (.int .i64 1) ∧ W.cell? ⟨w.heap.size, 1, none⟩ = some (.int .i64 at_) ∧ W.cell? ⟨w.heap.size, 2, none⟩ = some (.int .i64 n) ∧ W.cell? ⟨w.heap.size, 3, none⟩ = some (.int .i64 ty) ∧ W.cell? ⟨w.heap.size, 4, none⟩ = some (.string name) ∧ W.cell? ⟨w.heap.size, 5, none⟩ = some (.slice pl l.length cl) ∧ W.cell? ⟨w.heap.size, 6, none⟩ = some (.slice p a.length c)) := fun W hb => (hB.below hb).cells7
  have HML : Hid (∀ W, Below W1.heap.size W1 W → MaxL W) := fun W hb => (hm.below hb1).below hb
  have HFI : Hid (∀ W, Below W1.heap.size W1 W → Calls Tryz.prog 97 #[.slice pl l.length cl] W fun e w' => e = .returned (.bool (formLR l)) ∧ Below W.heap.size W w') := fun W hb => formLabel_calls l _ W (hl.stays (keeps_of_below (hb1.trans (hb.mono hb1.size)))) ((hm.below hb1).below hb)
  have HKD : Hid (∀ W, Below W1.heap.size W1 W → ∀ (i : Nat) (hi : i < a.length), ∃ pl cl pa ca, ExIs W a[i] (.agg #[.int .i64 a[i].kind, .int .i64 a[i].at_, .int .i64 a[i].num, .int .i64 a[i].ty, .string a[i].name, .slice pl a[i].lab.length cl, .slice pa a[i].kids.length ca]) ∧
      W.cell? ⟨b, o + i * 7, none⟩ = some (.int .i64 a[i].kind) ∧ W.cell? ⟨b, o + i * 7 + 1, none⟩ = some (.int .i64 a[i].at_) ∧ W.cell? ⟨b, o + i * 7 + 2, none⟩ = some (.int .i64 a[i].num) ∧ W.cell? ⟨b, o + i * 7 + 3, none⟩ = some (.int .i64 a[i].ty) ∧
      W.cell? ⟨b, o + i * 7 + 4, none⟩ = some (.string a[i].name) ∧ W.cell? ⟨b, o + i * 7 + 5, none⟩ = some (.slice pl a[i].lab.length cl) ∧ W.cell? ⟨b, o + i * 7 + 6, none⟩ = some (.slice pa a[i].kids.length ca)) := fun W h i hi => by
    have hk := (keeps_of_below hb1).trans (keeps_of_below h)
    obtain ⟨pl, cl, pa, ca, g1, g2, g3, g4, g5, g6, g7, g8, g9⟩ := hkids i hi
    exact ⟨pl, cl, pa, ca, ⟨_, _, rfl, g1.stays hk, g2.stays hk⟩, hk.2 _ _ _ g3, hk.2 _ _ _ g4, hk.2 _ _ _ g5, hk.2 _ _ _ g6, hk.2 _ _ _ g7, hk.2 _ _ _ g8, hk.2 _ _ _ g9⟩
  obtain ⟨q0, q1, q2, q3, q4, q5, q6⟩ := hB.cells7
  have HBW := Lib.hid hb1
  have HIH := Lib.hid ih
  have HP := Lib.hid hp
  have HNM := Lib.hid hnm
  have HTY := Lib.hid hty
  generalize hR : (decide (0 < topV ty) && decide (0 ≤ n) && decide (n ≤ topV ty) && ((a.length : Int) == 0) && ((l.length : Int) == 0) && (name == ⟨#[]⟩)) = R at *
  have HR := Lib.hid hR
  generalize hFA : frmL a = FA
  have HFA := Lib.hid hFA
  have hmm := @run_makeMap Tryz.prog
  clear hB hb1 hl ha hm hR hFA ih hp hkids h1 hnm hty
  go_enter Tryz.func63, Tryz.ntmps63
  go_wp2_with (fail)
  clear q0 q1 q2 q3 q4 q5 q6 eW
  go_loopw [4, 10] (fun _ i ws => ∃ (k : Nat) (wo : World), k ≤ a.length ∧ i = .int .i64 k ∧ wo = ws ∧ Hid (Below W1.heap.size W1 wo) ∧ Hid (∀ j (hj : j < a.length), j < k → frmE a[j] = true)) (fun _ i _ => a.length - (intOf i).toNat)
  case atStart => exact ⟨0, _, Nat.zero_le _, rfl, rfl, Below.refl _ _, fun j _ h => absurd h (by omega)⟩
  case round =>
    obtain ⟨k, wo, hk, rfl, rfl, HB, HA⟩ := hrel
    by_cases hlt : k < a.length
    · obtain ⟨pl', cl', pa', ca', hy, g0, g1, g2, g3, g4, g5, g6⟩ := HKD.out wo HB.out k hlt
      obtain rfl := HP.out (by omega)
      have hki : (k : Int) < (a.length : Int) := by omega
      have hk0 : (0 : Int) ≤ (k : Int) := by omega
      have hkm : (k : Int) + 1 ≤ 9223372036854775807 := by omega
      have HC0 := Lib.hid (HIH.out k hlt)
      have HAT : Hid (frmE a[k] = false → frmL a = false) := fun h => frmL_at hlt h
      have HAN : Hid (frmE a[k] = true → ∀ j (hj : j < a.length), j < k + 1 → frmE a[j] = true) := fun h j h1 h3 => by
        rcases Nat.lt_or_ge j k with h4 | h4
        · exact HA.out j h1 h4
        · obtain rfl : j = k := by omega
          exact h
      have HLT := Lib.hid hlt
      generalize a[k] = y at *
      obtain ⟨W2, eW2⟩ : ∃ W2, wo.alloc (.cells #[.int .i64 y.kind, .int .i64 y.at_, .int .i64 y.num, .int .i64 y.ty, .string y.name, .slice pl' y.lab.length cl', .slice pa' y.kids.length ca'] 26) = W2 := ⟨_, rfl⟩
      have hb2 : Below wo.heap.size wo W2 := by rw [← eW2]; exact (Below.refl _ _).alloc (Nat.le_refl _) _
      have hB2 : Blk W2 wo.heap.size (exC y (.slice pl' y.lab.length cl') (.slice pa' y.kids.length ca')) 26 := by rw [← eW2]; exact Blk.new _ _ _
      have HB2 := Lib.hid (HB.out.trans (hb2.mono HB.out.size))
      have HC := Lib.hid (HC0.out W2 _ (HML.out W2 HB2.out) (hy.stays (keeps_of_below hb2)))
      obtain ⟨c0, c1, c2, c3, c4, c5, c6⟩ := hB2.cells7
      clear hb2 hB2 hy hk hlt HC0
      cases hs : frmE y with
      | true =>
        have HN := Lib.hid (HAN.out hs)
        rw [hs] at HC
        clear hs HAT HAN
        go_wp2_with (fail)
        refine HC.out.mono ?_
        rintro e w3 ⟨rfl, hb3⟩
        have HB3 := Lib.hid (HB2.out.trans (hb3.mono HB2.out.size))
        clear hb3
        go_wp2_with (fail)
        go_roundw
        case rel => exact ⟨k + 1, _, by have h1 := HLT.out; omega, by go_num, rfl, HB3.out, HN.out⟩
        case measure => have h1 := HLT.out; simp [intOf]; omega
      | false =>
        have HN := Lib.hid (HAT.out hs)
        rw [hs] at HC
        clear hs HAT HAN
        go_wp2_with (fail)
        refine HC.out.mono ?_
        rintro e w3 ⟨rfl, hb3⟩
        have HB3 := Lib.hid (HB2.out.trans (hb3.mono HB2.out.size))
        clear hb3
        go_wp2_with (fail)
        go_ret
        exact ⟨by rw [← HFA.out, HN.out]; rfl, HBW.out.trans (HB3.out.mono HBW.out.size)⟩
    · have hki : ¬ (k : Int) < (a.length : Int) := by omega
      have HALL : Hid (frmL a = true) := frmL_all fun j hj => HA.out j hj (by omega)
      have HBz : Hid (Below W1.heap.size W1 wo) := Lib.hid HB.out
      obtain ⟨q0, q1, q2, q3, q4, q5, q6⟩ := HQ.out wo HBz.out
      generalize hfit : formLR l = fl at *
      generalize hnam : isName name = nm at *
      generalize hlev : levelT name = lv at *
      have HL2 : Hid (levelT name = lv) := hlev
      have HN2 : Hid (isName name = nm) := hnam
      clear hfit hnam hlev hlt hk
      obtain ⟨V0, e0⟩ : ∃ V0, wo.alloc (.map #[] 0) = V0 := ⟨_, rfl⟩
      have m0 : MapI V0 wo.heap.size 0 (fun _ => 0) := by rw [← e0]; exact MapI.start wo
      have b0 : Below wo.heap.size wo V0 := by rw [← e0]; exact (Below.refl _ _).alloc (Nat.le_refl _) _
      obtain ⟨V1, u1, m1, g1⟩ := m0.put (by omega) (k := 1) (by decide) (c := 999999999) (by decide)
      obtain ⟨V2, u2, m2, g2⟩ := m1.put (by omega) (k := 2) (by decide) (c := 1) (by decide)
      have hlook : (Instr.lookup 171 (.map (some wo.heap.size)) (.int .i64 ty) false).run Tryz.prog V2 = .ok (.int .i64 (topV ty)) V2 := m2.look HTY.out
      have gall := g1.trans g2
      have hbV : Below wo.heap.size wo V2 := ⟨gall.os.trans b0.os, gall.tape.trans b0.tape, gall.output.trans b0.output, Nat.le_trans b0.size gall.size, fun i hi => (gall.block i (Nat.lt_of_lt_of_le hi b0.size) (by simp; omega)).trans (b0.block i hi)⟩
      have HBV := Lib.hid (HBz.out.trans (hbV.mono HBz.out.size))
      obtain ⟨q0', q1', q2', q3', q4', q5', q6'⟩ := HQ.out V2 HBV.out
      obtain ⟨qa, qb, qc, qd, qe, qf, qg⟩ := HQ.out V0 (HBz.out.trans (b0.mono HBz.out.size))
      clear m0 m1 m2 g1 g2 gall b0 hbV
      generalize topV ty = tp at *
      go_wp2_with (fail)
      all_goals (
        go_ret
        refine ⟨ret_bool ?_, HBW.out.trans (HBV.out.mono HBW.out.size)⟩
        first
          | (rw [← HR.out, ← HFA.out, HALL.out]; done)
          | (rw [← HR.out, ← HFA.out, HALL.out]; simp [txt_beq, e_list, minus_list, not_list, *]; done)
          | (rw [← HR.out, ← HFA.out, HALL.out]; simp [txt_beq, e_list, minus_list, not_list, *]; intros; first | (exfalso; omega) | (rw [Bool.eq_iff_iff]; simp; done) | (rw [Bool.eq_iff_iff]; simp [*]; done) | ((try constructor) <;> intros <;> omega)))
set_option maxHeartbeats 8000000 in
set_option maxRecDepth 100000 in
theorem frm_2 (at_ n ty : Int) (name : Txt) (l : Lab) (a : List Ex) (vl va : Value) (w : World) (hl : Lbl w l vl) (ha : Exs w a va) (hm : MaxL w) (hnm : okTxt name) (hty : (Lit.int .i64 ty).wf = true)
    (ih : ∀ (k : Nat) (h : k < a.length) (W : World) (v : Value), MaxL W → ExIs W a[k] v → Calls Tryz.prog 63 #[v] W fun e w' => e = .returned (.bool (frmE a[k])) ∧ Below W.heap.size W w') :
    Calls Tryz.prog 63 #[.agg #[.int .i64 2, .int .i64 at_, .int .i64 n, .int .i64 ty, .string name, vl, va]] w fun e w' =>
      e = .returned (.bool (frmL a && ((n == 0) && (ty == 0) && isName name && ((a.length : Int) == 0) && ((l.length : Int) == 0)))) ∧ Below w.heap.size w w' := by
  obtain ⟨pl, cl, rfl, h1⟩ := hl
  have hl : Lbl w l (.slice pl l.length cl) := ⟨pl, cl, rfl, h1⟩
  obtain ⟨b, o, c, p, rfl, hmax, hp, hkids⟩ := ha.at
  obtain ⟨W1, eW⟩ : ∃ W1, w.alloc (.cells #[.int .i64 2, .int .i64 at_, .int .i64 n, .int .i64 ty, .string name, .slice pl l.length cl, .slice p a.length c] 26) = W1 := ⟨_, rfl⟩
  have hb1 : Below w.heap.size w W1 := by rw [← eW]; exact (Below.refl _ _).alloc (Nat.le_refl _) _
  have hB : Blk W1 w.heap.size [.int .i64 2, .int .i64 at_, .int .i64 n, .int .i64 ty, .string name, .slice pl l.length cl, .slice p a.length c] 26 := by rw [← eW]; exact Blk.new _ _ _
  have HQ : Hid (∀ W, Below W1.heap.size W1 W → W.cell? ⟨w.heap.size, 0, none⟩ = some (.int .i64 2) ∧ W.cell? ⟨w.heap.size, 1, none⟩ = some (.int .i64 at_) ∧ W.cell? ⟨w.heap.size, 2, none⟩ = some (.int .i64 n) ∧ W.cell? ⟨w.heap.size, 3, none⟩ = some (.int .i64 ty) ∧ W.cell? ⟨w.heap.size, 4, none⟩ = some (.string name) ∧ W.cell? ⟨w.heap.size, 5, none⟩ = some (.slice pl l.length cl) ∧ W.cell? ⟨w.heap.size, 6, none⟩ = some (.slice p a.length c)) := fun W hb => (hB.below hb).cells7
  have HML : Hid (∀ W, Below W1.heap.size W1 W → MaxL W) := fun W hb => (hm.below hb1).below hb
  have HFI : Hid (∀ W, Below W1.heap.size W1 W → Calls Tryz.prog 97 #[.slice pl l.length cl] W fun e w' => e = .returned (.bool (formLR l)) ∧ Below W.heap.size W w') := fun W hb => formLabel_calls l _ W (hl.stays (keeps_of_below (hb1.trans (hb.mono hb1.size)))) ((hm.below hb1).below hb)
  have HKD : Hid (∀ W, Below W1.heap.size W1 W → ∀ (i : Nat) (hi : i < a.length), ∃ pl cl pa ca, ExIs W a[i] (.agg #[.int .i64 a[i].kind, .int .i64 a[i].at_, .int .i64 a[i].num, .int .i64 a[i].ty, .string a[i].name, .slice pl a[i].lab.length cl, .slice pa a[i].kids.length ca]) ∧
      W.cell? ⟨b, o + i * 7, none⟩ = some (.int .i64 a[i].kind) ∧ W.cell? ⟨b, o + i * 7 + 1, none⟩ = some (.int .i64 a[i].at_) ∧ W.cell? ⟨b, o + i * 7 + 2, none⟩ = some (.int .i64 a[i].num) ∧ W.cell? ⟨b, o + i * 7 + 3, none⟩ = some (.int .i64 a[i].ty) ∧
      W.cell? ⟨b, o + i * 7 + 4, none⟩ = some (.string a[i].name) ∧ W.cell? ⟨b, o + i * 7 + 5, none⟩ = some (.slice pl a[i].lab.length cl) ∧ W.cell? ⟨b, o + i * 7 + 6, none⟩ = some (.slice pa a[i].kids.length ca)) := fun W h i hi => by
    have hk := (keeps_of_below hb1).trans (keeps_of_below h)
    obtain ⟨pl, cl, pa, ca, g1, g2, g3, g4, g5, g6, g7, g8, g9⟩ := hkids i hi
    exact ⟨pl, cl, pa, ca, ⟨_, _, rfl, g1.stays hk, g2.stays hk⟩, hk.2 _ _ _ g3, hk.2 _ _ _ g4, hk.2 _ _ _ g5, hk.2 _ _ _ g6, hk.2 _ _ _ g7, hk.2 _ _ _ g8, hk.2 _ _ _ g9⟩
  obtain ⟨q0, q1, q2, q3, q4, q5, q6⟩ := hB.cells7
  have HBW := Lib.hid hb1
  have HIH := Lib.hid ih
  have HP := Lib.hid hp
  have HNM := Lib.hid hnm
  have HTY := Lib.hid hty
  generalize hR : ((n == 0) && (ty == 0) && isName name && ((a.length : Int) == 0) && ((l.length : Int) == 0)) = R at *
  have HR := Lib.hid hR
  generalize hFA : frmL a = FA
  have HFA := Lib.hid hFA
  have hmm := @run_makeMap Tryz.prog
  clear hB hb1 hl ha hm hR hFA ih hp hkids h1 hnm hty
  go_enter Tryz.func63, Tryz.ntmps63
  go_wp2_with (fail)
  clear q0 q1 q2 q3 q4 q5 q6 eW
  go_loopw [4, 10] (fun _ i ws => ∃ (k : Nat) (wo : World), k ≤ a.length ∧ i = .int .i64 k ∧ wo = ws ∧ Hid (Below W1.heap.size W1 wo) ∧ Hid (∀ j (hj : j < a.length), j < k → frmE a[j] = true)) (fun _ i _ => a.length - (intOf i).toNat)
  case atStart => exact ⟨0, _, Nat.zero_le _, rfl, rfl, Below.refl _ _, fun j _ h => absurd h (by omega)⟩
  case round =>
    obtain ⟨k, wo, hk, rfl, rfl, HB, HA⟩ := hrel
    by_cases hlt : k < a.length
    · obtain ⟨pl', cl', pa', ca', hy, g0, g1, g2, g3, g4, g5, g6⟩ := HKD.out wo HB.out k hlt
      obtain rfl := HP.out (by omega)
      have hki : (k : Int) < (a.length : Int) := by omega
      have hk0 : (0 : Int) ≤ (k : Int) := by omega
      have hkm : (k : Int) + 1 ≤ 9223372036854775807 := by omega
      have HC0 := Lib.hid (HIH.out k hlt)
      have HAT : Hid (frmE a[k] = false → frmL a = false) := fun h => frmL_at hlt h
      have HAN : Hid (frmE a[k] = true → ∀ j (hj : j < a.length), j < k + 1 → frmE a[j] = true) := fun h j h1 h3 => by
        rcases Nat.lt_or_ge j k with h4 | h4
        · exact HA.out j h1 h4
        · obtain rfl : j = k := by omega
          exact h
      have HLT := Lib.hid hlt
      generalize a[k] = y at *
      obtain ⟨W2, eW2⟩ : ∃ W2, wo.alloc (.cells #[.int .i64 y.kind, .int .i64 y.at_, .int .i64 y.num, .int .i64 y.ty, .string y.name, .slice pl' y.lab.length cl', .slice pa' y.kids.length ca'] 26) = W2 := ⟨_, rfl⟩
      have hb2 : Below wo.heap.size wo W2 := by rw [← eW2]; exact (Below.refl _ _).alloc (Nat.le_refl _) _
      have hB2 : Blk W2 wo.heap.size (exC y (.slice pl' y.lab.length cl') (.slice pa' y.kids.length ca')) 26 := by rw [← eW2]; exact Blk.new _ _ _
      have HB2 := Lib.hid (HB.out.trans (hb2.mono HB.out.size))
      have HC := Lib.hid (HC0.out W2 _ (HML.out W2 HB2.out) (hy.stays (keeps_of_below hb2)))
      obtain ⟨c0, c1, c2, c3, c4, c5, c6⟩ := hB2.cells7
      clear hb2 hB2 hy hk hlt HC0
      cases hs : frmE y with
      | true =>
        have HN := Lib.hid (HAN.out hs)
        rw [hs] at HC
        clear hs HAT HAN
        go_wp2_with (fail)
        refine HC.out.mono ?_
        rintro e w3 ⟨rfl, hb3⟩
        have HB3 := Lib.hid (HB2.out.trans (hb3.mono HB2.out.size))
        clear hb3
        go_wp2_with (fail)
        go_roundw
        case rel => exact ⟨k + 1, _, by have h1 := HLT.out; omega, by go_num, rfl, HB3.out, HN.out⟩
        case measure => have h1 := HLT.out; simp [intOf]; omega
      | false =>
        have HN := Lib.hid (HAT.out hs)
        rw [hs] at HC
        clear hs HAT HAN
        go_wp2_with (fail)
        refine HC.out.mono ?_
        rintro e w3 ⟨rfl, hb3⟩
        have HB3 := Lib.hid (HB2.out.trans (hb3.mono HB2.out.size))
        clear hb3
        go_wp2_with (fail)
        go_ret
        exact ⟨by rw [← HFA.out, HN.out]; rfl, HBW.out.trans (HB3.out.mono HBW.out.size)⟩
    · have hki : ¬ (k : Int) < (a.length : Int) := by omega
      have HALL : Hid (frmL a = true) := frmL_all fun j hj => HA.out j hj (by omega)
      have HBz : Hid (Below W1.heap.size W1 wo) := Lib.hid HB.out
      obtain ⟨q0, q1, q2, q3, q4, q5, q6⟩ := HQ.out wo HBz.out
      generalize hfit : formLR l = fl at *
      generalize hnam : isName name = nm at *
      generalize hlev : levelT name = lv at *
      have HL2 : Hid (levelT name = lv) := hlev
      have HN2 : Hid (isName name = nm) := hnam
      clear hfit hnam hlev hlt hk
      cases nm
      all_goals (
        go_wp2_with (first
          | (go_at_call 26; refine (levelOf_calls name _ HNM.out).mono ?_; rintro e w2 ⟨rfl, hb2⟩; replace HBz := Lib.hid (HBz.out.trans (hb2.mono HBz.out.size)); clear hb2; clear q0 q1 q2 q3 q4 q5 q6; obtain ⟨q0, q1, q2, q3, q4, q5, q6⟩ := HQ.out _ HBz.out; rw [HL2.out])
          | (go_at_call 96; refine (refNameM_calls name _ HNM.out (HML.out _ HBz.out)).mono ?_; rintro e w3 ⟨rfl, hb3⟩; replace HBz := Lib.hid (HBz.out.trans (hb3.mono HBz.out.size)); clear hb3; clear q0 q1 q2 q3 q4 q5 q6; obtain ⟨q0, q1, q2, q3, q4, q5, q6⟩ := HQ.out _ HBz.out; rw [HN2.out])
          | (go_at_call 97; refine (HFI.out _ HBz.out).mono ?_; rintro e w4 ⟨rfl, hb4⟩; replace HBz := Lib.hid (HBz.out.trans (hb4.mono HBz.out.size)); clear hb4; clear q0 q1 q2 q3 q4 q5 q6; obtain ⟨q0, q1, q2, q3, q4, q5, q6⟩ := HQ.out _ HBz.out)))
      all_goals (
        go_ret
        refine ⟨ret_bool ?_, HBW.out.trans (HBz.out.mono HBW.out.size)⟩
        first
          | (rw [← HR.out, ← HFA.out, HALL.out]; done)
          | (rw [← HR.out, ← HFA.out, HALL.out]; simp [txt_beq, e_list, minus_list, not_list, *]; done)
          | (rw [← HR.out, ← HFA.out, HALL.out]; simp [txt_beq, e_list, minus_list, not_list, *]; intros; first | (exfalso; omega) | (rw [Bool.eq_iff_iff]; simp; done) | (rw [Bool.eq_iff_iff]; simp [*]; done) | ((try constructor) <;> intros <;> omega)))
set_option maxHeartbeats 8000000 in
set_option maxRecDepth 100000 in
theorem frm_3 (at_ n ty : Int) (name : Txt) (l : Lab) (a : List Ex) (vl va : Value) (w : World) (hl : Lbl w l vl) (ha : Exs w a va) (hm : MaxL w) (hnm : okTxt name) (hty : (Lit.int .i64 ty).wf = true)
    (ih : ∀ (k : Nat) (h : k < a.length) (W : World) (v : Value), MaxL W → ExIs W a[k] v → Calls Tryz.prog 63 #[v] W fun e w' => e = .returned (.bool (frmE a[k])) ∧ Below W.heap.size W w') :
    Calls Tryz.prog 63 #[.agg #[.int .i64 3, .int .i64 at_, .int .i64 n, .int .i64 ty, .string name, vl, va]] w fun e w' =>
      e = .returned (.bool (frmL a && ((n == 0) && (ty == 0) && !decide (0 < (l.length : Int)) && ((((a.length : Int) == 2) && decide (0 < levelT name)) || (((a.length : Int) == 1) && (name == tNot || name == tMinus)))))) ∧ Below w.heap.size w w' := by
  obtain ⟨pl, cl, rfl, h1⟩ := hl
  have hl : Lbl w l (.slice pl l.length cl) := ⟨pl, cl, rfl, h1⟩
  obtain ⟨b, o, c, p, rfl, hmax, hp, hkids⟩ := ha.at
  obtain ⟨W1, eW⟩ : ∃ W1, w.alloc (.cells #[.int .i64 3, .int .i64 at_, .int .i64 n, .int .i64 ty, .string name, .slice pl l.length cl, .slice p a.length c] 26) = W1 := ⟨_, rfl⟩
  have hb1 : Below w.heap.size w W1 := by rw [← eW]; exact (Below.refl _ _).alloc (Nat.le_refl _) _
  have hB : Blk W1 w.heap.size [.int .i64 3, .int .i64 at_, .int .i64 n, .int .i64 ty, .string name, .slice pl l.length cl, .slice p a.length c] 26 := by rw [← eW]; exact Blk.new _ _ _
  have HQ : Hid (∀ W, Below W1.heap.size W1 W → W.cell? ⟨w.heap.size, 0, none⟩ = some (.int .i64 3) ∧ W.cell? ⟨w.heap.size, 1, none⟩ = some (.int .i64 at_) ∧ W.cell? ⟨w.heap.size, 2, none⟩ = some (.int .i64 n) ∧ W.cell? ⟨w.heap.size, 3, none⟩ = some (.int .i64 ty) ∧ W.cell? ⟨w.heap.size, 4, none⟩ = some (.string name) ∧ W.cell? ⟨w.heap.size, 5, none⟩ = some (.slice pl l.length cl) ∧ W.cell? ⟨w.heap.size, 6, none⟩ = some (.slice p a.length c)) := fun W hb => (hB.below hb).cells7
  have HML : Hid (∀ W, Below W1.heap.size W1 W → MaxL W) := fun W hb => (hm.below hb1).below hb
  have HFI : Hid (∀ W, Below W1.heap.size W1 W → Calls Tryz.prog 97 #[.slice pl l.length cl] W fun e w' => e = .returned (.bool (formLR l)) ∧ Below W.heap.size W w') := fun W hb => formLabel_calls l _ W (hl.stays (keeps_of_below (hb1.trans (hb.mono hb1.size)))) ((hm.below hb1).below hb)
  have HKD : Hid (∀ W, Below W1.heap.size W1 W → ∀ (i : Nat) (hi : i < a.length), ∃ pl cl pa ca, ExIs W a[i] (.agg #[.int .i64 a[i].kind, .int .i64 a[i].at_, .int .i64 a[i].num, .int .i64 a[i].ty, .string a[i].name, .slice pl a[i].lab.length cl, .slice pa a[i].kids.length ca]) ∧
      W.cell? ⟨b, o + i * 7, none⟩ = some (.int .i64 a[i].kind) ∧ W.cell? ⟨b, o + i * 7 + 1, none⟩ = some (.int .i64 a[i].at_) ∧ W.cell? ⟨b, o + i * 7 + 2, none⟩ = some (.int .i64 a[i].num) ∧ W.cell? ⟨b, o + i * 7 + 3, none⟩ = some (.int .i64 a[i].ty) ∧
      W.cell? ⟨b, o + i * 7 + 4, none⟩ = some (.string a[i].name) ∧ W.cell? ⟨b, o + i * 7 + 5, none⟩ = some (.slice pl a[i].lab.length cl) ∧ W.cell? ⟨b, o + i * 7 + 6, none⟩ = some (.slice pa a[i].kids.length ca)) := fun W h i hi => by
    have hk := (keeps_of_below hb1).trans (keeps_of_below h)
    obtain ⟨pl, cl, pa, ca, g1, g2, g3, g4, g5, g6, g7, g8, g9⟩ := hkids i hi
    exact ⟨pl, cl, pa, ca, ⟨_, _, rfl, g1.stays hk, g2.stays hk⟩, hk.2 _ _ _ g3, hk.2 _ _ _ g4, hk.2 _ _ _ g5, hk.2 _ _ _ g6, hk.2 _ _ _ g7, hk.2 _ _ _ g8, hk.2 _ _ _ g9⟩
  obtain ⟨q0, q1, q2, q3, q4, q5, q6⟩ := hB.cells7
  have HBW := Lib.hid hb1
  have HIH := Lib.hid ih
  have HP := Lib.hid hp
  have HNM := Lib.hid hnm
  have HTY := Lib.hid hty
  generalize hR : ((n == 0) && (ty == 0) && !decide (0 < (l.length : Int)) && ((((a.length : Int) == 2) && decide (0 < levelT name)) || (((a.length : Int) == 1) && (name == tNot || name == tMinus)))) = R at *
  have HR := Lib.hid hR
  generalize hFA : frmL a = FA
  have HFA := Lib.hid hFA
  have hmm := @run_makeMap Tryz.prog
  clear hB hb1 hl ha hm hR hFA ih hp hkids h1 hnm hty
  go_enter Tryz.func63, Tryz.ntmps63
  go_wp2_with (fail)
  clear q0 q1 q2 q3 q4 q5 q6 eW
  go_loopw [4, 10] (fun _ i ws => ∃ (k : Nat) (wo : World), k ≤ a.length ∧ i = .int .i64 k ∧ wo = ws ∧ Hid (Below W1.heap.size W1 wo) ∧ Hid (∀ j (hj : j < a.length), j < k → frmE a[j] = true)) (fun _ i _ => a.length - (intOf i).toNat)
  case atStart => exact ⟨0, _, Nat.zero_le _, rfl, rfl, Below.refl _ _, fun j _ h => absurd h (by omega)⟩
  case round =>
    obtain ⟨k, wo, hk, rfl, rfl, HB, HA⟩ := hrel
    by_cases hlt : k < a.length
    · obtain ⟨pl', cl', pa', ca', hy, g0, g1, g2, g3, g4, g5, g6⟩ := HKD.out wo HB.out k hlt
      obtain rfl := HP.out (by omega)
      have hki : (k : Int) < (a.length : Int) := by omega
      have hk0 : (0 : Int) ≤ (k : Int) := by omega
      have hkm : (k : Int) + 1 ≤ 9223372036854775807 := by omega
      have HC0 := Lib.hid (HIH.out k hlt)
      have HAT : Hid (frmE a[k] = false → frmL a = false) := fun h => frmL_at hlt h
      have HAN : Hid (frmE a[k] = true → ∀ j (hj : j < a.length), j < k + 1 → frmE a[j] = true) := fun h j h1 h3 => by
        rcases Nat.lt_or_ge j k with h4 | h4
        · exact HA.out j h1 h4
        · obtain rfl : j = k := by omega
          exact h
      have HLT := Lib.hid hlt
      generalize a[k] = y at *
      obtain ⟨W2, eW2⟩ : ∃ W2, wo.alloc (.cells #[.int .i64 y.kind, .int .i64 y.at_, .int .i64 y.num, .int .i64 y.ty, .string y.name, .slice pl' y.lab.length cl', .slice pa' y.kids.length ca'] 26) = W2 := ⟨_, rfl⟩
      have hb2 : Below wo.heap.size wo W2 := by rw [← eW2]; exact (Below.refl _ _).alloc (Nat.le_refl _) _
      have hB2 : Blk W2 wo.heap.size (exC y (.slice pl' y.lab.length cl') (.slice pa' y.kids.length ca')) 26 := by rw [← eW2]; exact Blk.new _ _ _
      have HB2 := Lib.hid (HB.out.trans (hb2.mono HB.out.size))
      have HC := Lib.hid (HC0.out W2 _ (HML.out W2 HB2.out) (hy.stays (keeps_of_below hb2)))
      obtain ⟨c0, c1, c2, c3, c4, c5, c6⟩ := hB2.cells7
      clear hb2 hB2 hy hk hlt HC0
      cases hs : frmE y with
      | true =>
        have HN := Lib.hid (HAN.out hs)
        rw [hs] at HC
        clear hs HAT HAN
        go_wp2_with (fail)
        refine HC.out.mono ?_
        rintro e w3 ⟨rfl, hb3⟩
        have HB3 := Lib.hid (HB2.out.trans (hb3.mono HB2.out.size))
        clear hb3
        go_wp2_with (fail)
        go_roundw
        case rel => exact ⟨k + 1, _, by have h1 := HLT.out; omega, by go_num, rfl, HB3.out, HN.out⟩
        case measure => have h1 := HLT.out; simp [intOf]; omega
      | false =>
        have HN := Lib.hid (HAT.out hs)
        rw [hs] at HC
        clear hs HAT HAN
        go_wp2_with (fail)
        refine HC.out.mono ?_
        rintro e w3 ⟨rfl, hb3⟩
        have HB3 := Lib.hid (HB2.out.trans (hb3.mono HB2.out.size))
        clear hb3
        go_wp2_with (fail)
        go_ret
        exact ⟨by rw [← HFA.out, HN.out]; rfl, HBW.out.trans (HB3.out.mono HBW.out.size)⟩
    · have hki : ¬ (k : Int) < (a.length : Int) := by omega
      have HALL : Hid (frmL a = true) := frmL_all fun j hj => HA.out j hj (by omega)
      have HBz : Hid (Below W1.heap.size W1 wo) := Lib.hid HB.out
      obtain ⟨q0, q1, q2, q3, q4, q5, q6⟩ := HQ.out wo HBz.out
      generalize hfit : formLR l = fl at *
      generalize hnam : isName name = nm at *
      generalize hlev : levelT name = lv at *
      have HL2 : Hid (levelT name = lv) := hlev
      have HN2 : Hid (isName name = nm) := hnam
      clear hfit hnam hlev hlt hk
      skip
      all_goals (
        go_wp2_with (first
          | (go_at_call 26; refine (levelOf_calls name _ HNM.out).mono ?_; rintro e w2 ⟨rfl, hb2⟩; replace HBz := Lib.hid (HBz.out.trans (hb2.mono HBz.out.size)); clear hb2; clear q0 q1 q2 q3 q4 q5 q6; obtain ⟨q0, q1, q2, q3, q4, q5, q6⟩ := HQ.out _ HBz.out; rw [HL2.out])
          | (go_at_call 96; refine (refNameM_calls name _ HNM.out (HML.out _ HBz.out)).mono ?_; rintro e w3 ⟨rfl, hb3⟩; replace HBz := Lib.hid (HBz.out.trans (hb3.mono HBz.out.size)); clear hb3; clear q0 q1 q2 q3 q4 q5 q6; obtain ⟨q0, q1, q2, q3, q4, q5, q6⟩ := HQ.out _ HBz.out; rw [HN2.out])
          | (go_at_call 97; refine (HFI.out _ HBz.out).mono ?_; rintro e w4 ⟨rfl, hb4⟩; replace HBz := Lib.hid (HBz.out.trans (hb4.mono HBz.out.size)); clear hb4; clear q0 q1 q2 q3 q4 q5 q6; obtain ⟨q0, q1, q2, q3, q4, q5, q6⟩ := HQ.out _ HBz.out)))
      all_goals (
        go_ret
        refine ⟨ret_bool ?_, HBW.out.trans (HBz.out.mono HBW.out.size)⟩
        first
          | (rw [← HR.out, ← HFA.out, HALL.out]; done)
          | (rw [← HR.out, ← HFA.out, HALL.out]; simp [txt_beq, e_list, minus_list, not_list, *]; done)
          | (rw [← HR.out, ← HFA.out, HALL.out]; simp [txt_beq, e_list, minus_list, not_list, *]; intros; first | (exfalso; omega) | (rw [Bool.eq_iff_iff]; simp; done) | (rw [Bool.eq_iff_iff]; simp [*]; done) | ((try constructor) <;> intros <;> omega)))
set_option maxHeartbeats 8000000 in
set_option maxRecDepth 100000 in
theorem frm_4 (at_ n ty : Int) (name : Txt) (l : Lab) (a : List Ex) (vl va : Value) (w : World) (hl : Lbl w l vl) (ha : Exs w a va) (hm : MaxL w) (hnm : okTxt name) (hty : (Lit.int .i64 ty).wf = true)
    (ih : ∀ (k : Nat) (h : k < a.length) (W : World) (v : Value), MaxL W → ExIs W a[k] v → Calls Tryz.prog 63 #[v] W fun e w' => e = .returned (.bool (frmE a[k])) ∧ Below W.heap.size W w') :
    Calls Tryz.prog 63 #[.agg #[.int .i64 4, .int .i64 at_, .int .i64 n, .int .i64 ty, .string name, vl, va]] w fun e w' =>
      e = .returned (.bool (frmL a && ((n == 0) && (ty == 0) && isName name && decide ((a.length : Int) ≤ 4) && ((l.length : Int) == 0)))) ∧ Below w.heap.size w w' := by
  obtain ⟨pl, cl, rfl, h1⟩ := hl
  have hl : Lbl w l (.slice pl l.length cl) := ⟨pl, cl, rfl, h1⟩
  obtain ⟨b, o, c, p, rfl, hmax, hp, hkids⟩ := ha.at
  obtain ⟨W1, eW⟩ : ∃ W1, w.alloc (.cells #[.int .i64 4, .int .i64 at_, .int .i64 n, .int .i64 ty, .string name, .slice pl l.length cl, .slice p a.length c] 26) = W1 := ⟨_, rfl⟩
  have hb1 : Below w.heap.size w W1 := by rw [← eW]; exact (Below.refl _ _).alloc (Nat.le_refl _) _
  have hB : Blk W1 w.heap.size [.int .i64 4, .int .i64 at_, .int .i64 n, .int .i64 ty, .string name, .slice pl l.length cl, .slice p a.length c] 26 := by rw [← eW]; exact Blk.new _ _ _
  have HQ : Hid (∀ W, Below W1.heap.size W1 W → W.cell? ⟨w.heap.size, 0, none⟩ = some (.int .i64 4) ∧ W.cell? ⟨w.heap.size, 1, none⟩ = some (.int .i64 at_) ∧ W.cell? ⟨w.heap.size, 2, none⟩ = some (.int .i64 n) ∧ W.cell? ⟨w.heap.size, 3, none⟩ = some (.int .i64 ty) ∧ W.cell? ⟨w.heap.size, 4, none⟩ = some (.string name) ∧ W.cell? ⟨w.heap.size, 5, none⟩ = some (.slice pl l.length cl) ∧ W.cell? ⟨w.heap.size, 6, none⟩ = some (.slice p a.length c)) := fun W hb => (hB.below hb).cells7
  have HML : Hid (∀ W, Below W1.heap.size W1 W → MaxL W) := fun W hb => (hm.below hb1).below hb
  have HFI : Hid (∀ W, Below W1.heap.size W1 W → Calls Tryz.prog 97 #[.slice pl l.length cl] W fun e w' => e = .returned (.bool (formLR l)) ∧ Below W.heap.size W w') := fun W hb => formLabel_calls l _ W (hl.stays (keeps_of_below (hb1.trans (hb.mono hb1.size)))) ((hm.below hb1).below hb)
  have HKD : Hid (∀ W, Below W1.heap.size W1 W → ∀ (i : Nat) (hi : i < a.length), ∃ pl cl pa ca, ExIs W a[i] (.agg #[.int .i64 a[i].kind, .int .i64 a[i].at_, .int .i64 a[i].num, .int .i64 a[i].ty, .string a[i].name, .slice pl a[i].lab.length cl, .slice pa a[i].kids.length ca]) ∧
      W.cell? ⟨b, o + i * 7, none⟩ = some (.int .i64 a[i].kind) ∧ W.cell? ⟨b, o + i * 7 + 1, none⟩ = some (.int .i64 a[i].at_) ∧ W.cell? ⟨b, o + i * 7 + 2, none⟩ = some (.int .i64 a[i].num) ∧ W.cell? ⟨b, o + i * 7 + 3, none⟩ = some (.int .i64 a[i].ty) ∧
      W.cell? ⟨b, o + i * 7 + 4, none⟩ = some (.string a[i].name) ∧ W.cell? ⟨b, o + i * 7 + 5, none⟩ = some (.slice pl a[i].lab.length cl) ∧ W.cell? ⟨b, o + i * 7 + 6, none⟩ = some (.slice pa a[i].kids.length ca)) := fun W h i hi => by
    have hk := (keeps_of_below hb1).trans (keeps_of_below h)
    obtain ⟨pl, cl, pa, ca, g1, g2, g3, g4, g5, g6, g7, g8, g9⟩ := hkids i hi
    exact ⟨pl, cl, pa, ca, ⟨_, _, rfl, g1.stays hk, g2.stays hk⟩, hk.2 _ _ _ g3, hk.2 _ _ _ g4, hk.2 _ _ _ g5, hk.2 _ _ _ g6, hk.2 _ _ _ g7, hk.2 _ _ _ g8, hk.2 _ _ _ g9⟩
  obtain ⟨q0, q1, q2, q3, q4, q5, q6⟩ := hB.cells7
  have HBW := Lib.hid hb1
  have HIH := Lib.hid ih
  have HP := Lib.hid hp
  have HNM := Lib.hid hnm
  have HTY := Lib.hid hty
  generalize hR : ((n == 0) && (ty == 0) && isName name && decide ((a.length : Int) ≤ 4) && ((l.length : Int) == 0)) = R at *
  have HR := Lib.hid hR
  generalize hFA : frmL a = FA
  have HFA := Lib.hid hFA
  have hmm := @run_makeMap Tryz.prog
  clear hB hb1 hl ha hm hR hFA ih hp hkids h1 hnm hty
  go_enter Tryz.func63, Tryz.ntmps63
  go_wp2_with (fail)
  clear q0 q1 q2 q3 q4 q5 q6 eW
  go_loopw [4, 10] (fun _ i ws => ∃ (k : Nat) (wo : World), k ≤ a.length ∧ i = .int .i64 k ∧ wo = ws ∧ Hid (Below W1.heap.size W1 wo) ∧ Hid (∀ j (hj : j < a.length), j < k → frmE a[j] = true)) (fun _ i _ => a.length - (intOf i).toNat)
  case atStart => exact ⟨0, _, Nat.zero_le _, rfl, rfl, Below.refl _ _, fun j _ h => absurd h (by omega)⟩
  case round =>
    obtain ⟨k, wo, hk, rfl, rfl, HB, HA⟩ := hrel
    by_cases hlt : k < a.length
    · obtain ⟨pl', cl', pa', ca', hy, g0, g1, g2, g3, g4, g5, g6⟩ := HKD.out wo HB.out k hlt
      obtain rfl := HP.out (by omega)
      have hki : (k : Int) < (a.length : Int) := by omega
      have hk0 : (0 : Int) ≤ (k : Int) := by omega
      have hkm : (k : Int) + 1 ≤ 9223372036854775807 := by omega
      have HC0 := Lib.hid (HIH.out k hlt)
      have HAT : Hid (frmE a[k] = false → frmL a = false) := fun h => frmL_at hlt h
      have HAN : Hid (frmE a[k] = true → ∀ j (hj : j < a.length), j < k + 1 → frmE a[j] = true) := fun h j h1 h3 => by
        rcases Nat.lt_or_ge j k with h4 | h4
        · exact HA.out j h1 h4
        · obtain rfl : j = k := by omega
          exact h
      have HLT := Lib.hid hlt
      generalize a[k] = y at *
      obtain ⟨W2, eW2⟩ : ∃ W2, wo.alloc (.cells #[.int .i64 y.kind, .int .i64 y.at_, .int .i64 y.num, .int .i64 y.ty, .string y.name, .slice pl' y.lab.length cl', .slice pa' y.kids.length ca'] 26) = W2 := ⟨_, rfl⟩
      have hb2 : Below wo.heap.size wo W2 := by rw [← eW2]; exact (Below.refl _ _).alloc (Nat.le_refl _) _
      have hB2 : Blk W2 wo.heap.size (exC y (.slice pl' y.lab.length cl') (.slice pa' y.kids.length ca')) 26 := by rw [← eW2]; exact Blk.new _ _ _
      have HB2 := Lib.hid (HB.out.trans (hb2.mono HB.out.size))
      have HC := Lib.hid (HC0.out W2 _ (HML.out W2 HB2.out) (hy.stays (keeps_of_below hb2)))
      obtain ⟨c0, c1, c2, c3, c4, c5, c6⟩ := hB2.cells7
      clear hb2 hB2 hy hk hlt HC0
      cases hs : frmE y with
      | true =>
        have HN := Lib.hid (HAN.out hs)
        rw [hs] at HC
        clear hs HAT HAN
        go_wp2_with (fail)
        refine HC.out.mono ?_
        rintro e w3 ⟨rfl, hb3⟩
        have HB3 := Lib.hid (HB2.out.trans (hb3.mono HB2.out.size))
        clear hb3
        go_wp2_with (fail)
        go_roundw
        case rel => exact ⟨k + 1, _, by have h1 := HLT.out; omega, by go_num, rfl, HB3.out, HN.out⟩
        case measure => have h1 := HLT.out; simp [intOf]; omega
      | false =>
        have HN := Lib.hid (HAT.out hs)
        rw [hs] at HC
        clear hs HAT HAN
        go_wp2_with (fail)
        refine HC.out.mono ?_
        rintro e w3 ⟨rfl, hb3⟩
        have HB3 := Lib.hid (HB2.out.trans (hb3.mono HB2.out.size))
        clear hb3
        go_wp2_with (fail)
        go_ret
        exact ⟨by rw [← HFA.out, HN.out]; rfl, HBW.out.trans (HB3.out.mono HBW.out.size)⟩
    · have hki : ¬ (k : Int) < (a.length : Int) := by omega
      have HALL : Hid (frmL a = true) := frmL_all fun j hj => HA.out j hj (by omega)
      have HBz : Hid (Below W1.heap.size W1 wo) := Lib.hid HB.out
      obtain ⟨q0, q1, q2, q3, q4, q5, q6⟩ := HQ.out wo HBz.out
      generalize hfit : formLR l = fl at *
      generalize hnam : isName name = nm at *
      generalize hlev : levelT name = lv at *
      have HL2 : Hid (levelT name = lv) := hlev
      have HN2 : Hid (isName name = nm) := hnam
      clear hfit hnam hlev hlt hk
      cases nm
      all_goals (
        go_wp2_with (first
          | (go_at_call 26; refine (levelOf_calls name _ HNM.out).mono ?_; rintro e w2 ⟨rfl, hb2⟩; replace HBz := Lib.hid (HBz.out.trans (hb2.mono HBz.out.size)); clear hb2; clear q0 q1 q2 q3 q4 q5 q6; obtain ⟨q0, q1, q2, q3, q4, q5, q6⟩ := HQ.out _ HBz.out; rw [HL2.out])
          | (go_at_call 96; refine (refNameM_calls name _ HNM.out (HML.out _ HBz.out)).mono ?_; rintro e w3 ⟨rfl, hb3⟩; replace HBz := Lib.hid (HBz.out.trans (hb3.mono HBz.out.size)); clear hb3; clear q0 q1 q2 q3 q4 q5 q6; obtain ⟨q0, q1, q2, q3, q4, q5, q6⟩ := HQ.out _ HBz.out; rw [HN2.out])
          | (go_at_call 97; refine (HFI.out _ HBz.out).mono ?_; rintro e w4 ⟨rfl, hb4⟩; replace HBz := Lib.hid (HBz.out.trans (hb4.mono HBz.out.size)); clear hb4; clear q0 q1 q2 q3 q4 q5 q6; obtain ⟨q0, q1, q2, q3, q4, q5, q6⟩ := HQ.out _ HBz.out)))
      all_goals (
        go_ret
        refine ⟨ret_bool ?_, HBW.out.trans (HBz.out.mono HBW.out.size)⟩
        first
          | (rw [← HR.out, ← HFA.out, HALL.out]; done)
          | (rw [← HR.out, ← HFA.out, HALL.out]; simp [txt_beq, e_list, minus_list, not_list, *]; done)
          | (rw [← HR.out, ← HFA.out, HALL.out]; simp [txt_beq, e_list, minus_list, not_list, *]; intros; first | (exfalso; omega) | (rw [Bool.eq_iff_iff]; simp; done) | (rw [Bool.eq_iff_iff]; simp [*]; done) | ((try constructor) <;> intros <;> omega)))
set_option maxHeartbeats 8000000 in
set_option maxRecDepth 100000 in
theorem frm_5 (at_ n ty : Int) (name : Txt) (l : Lab) (a : List Ex) (vl va : Value) (w : World) (hl : Lbl w l vl) (ha : Exs w a va) (hm : MaxL w) (hnm : okTxt name) (hty : (Lit.int .i64 ty).wf = true)
    (ih : ∀ (k : Nat) (h : k < a.length) (W : World) (v : Value), MaxL W → ExIs W a[k] v → Calls Tryz.prog 63 #[v] W fun e w' => e = .returned (.bool (frmE a[k])) ∧ Below W.heap.size W w') :
    Calls Tryz.prog 63 #[.agg #[.int .i64 5, .int .i64 at_, .int .i64 n, .int .i64 ty, .string name, vl, va]] w fun e w' =>
      e = .returned (.bool (frmL a && ((n == 0) && (ty == 0) && (name == ⟨#[]⟩) && ((a.length : Int) == 1) && formLR l))) ∧ Below w.heap.size w w' := by
  obtain ⟨pl, cl, rfl, h1⟩ := hl
  have hl : Lbl w l (.slice pl l.length cl) := ⟨pl, cl, rfl, h1⟩
  obtain ⟨b, o, c, p, rfl, hmax, hp, hkids⟩ := ha.at
  obtain ⟨W1, eW⟩ : ∃ W1, w.alloc (.cells #[.int .i64 5, .int .i64 at_, .int .i64 n, .int .i64 ty, .string name, .slice pl l.length cl, .slice p a.length c] 26) = W1 := ⟨_, rfl⟩
  have hb1 : Below w.heap.size w W1 := by rw [← eW]; exact (Below.refl _ _).alloc (Nat.le_refl _) _
  have hB : Blk W1 w.heap.size [.int .i64 5, .int .i64 at_, .int .i64 n, .int .i64 ty, .string name, .slice pl l.length cl, .slice p a.length c] 26 := by rw [← eW]; exact Blk.new _ _ _
  have HQ : Hid (∀ W, Below W1.heap.size W1 W → W.cell? ⟨w.heap.size, 0, none⟩ = some (.int .i64 5) ∧ W.cell? ⟨w.heap.size, 1, none⟩ = some (.int .i64 at_) ∧ W.cell? ⟨w.heap.size, 2, none⟩ = some (.int .i64 n) ∧ W.cell? ⟨w.heap.size, 3, none⟩ = some (.int .i64 ty) ∧ W.cell? ⟨w.heap.size, 4, none⟩ = some (.string name) ∧ W.cell? ⟨w.heap.size, 5, none⟩ = some (.slice pl l.length cl) ∧ W.cell? ⟨w.heap.size, 6, none⟩ = some (.slice p a.length c)) := fun W hb => (hB.below hb).cells7
  have HML : Hid (∀ W, Below W1.heap.size W1 W → MaxL W) := fun W hb => (hm.below hb1).below hb
  have HFI : Hid (∀ W, Below W1.heap.size W1 W → Calls Tryz.prog 97 #[.slice pl l.length cl] W fun e w' => e = .returned (.bool (formLR l)) ∧ Below W.heap.size W w') := fun W hb => formLabel_calls l _ W (hl.stays (keeps_of_below (hb1.trans (hb.mono hb1.size)))) ((hm.below hb1).below hb)
  have HKD : Hid (∀ W, Below W1.heap.size W1 W → ∀ (i : Nat) (hi : i < a.length), ∃ pl cl pa ca, ExIs W a[i] (.agg #[.int .i64 a[i].kind, .int .i64 a[i].at_, .int .i64 a[i].num, .int .i64 a[i].ty, .string a[i].name, .slice pl a[i].lab.length cl, .slice pa a[i].kids.length ca]) ∧
      W.cell? ⟨b, o + i * 7, none⟩ = some (.int .i64 a[i].kind) ∧ W.cell? ⟨b, o + i * 7 + 1, none⟩ = some (.int .i64 a[i].at_) ∧ W.cell? ⟨b, o + i * 7 + 2, none⟩ = some (.int .i64 a[i].num) ∧ W.cell? ⟨b, o + i * 7 + 3, none⟩ = some (.int .i64 a[i].ty) ∧
      W.cell? ⟨b, o + i * 7 + 4, none⟩ = some (.string a[i].name) ∧ W.cell? ⟨b, o + i * 7 + 5, none⟩ = some (.slice pl a[i].lab.length cl) ∧ W.cell? ⟨b, o + i * 7 + 6, none⟩ = some (.slice pa a[i].kids.length ca)) := fun W h i hi => by
    have hk := (keeps_of_below hb1).trans (keeps_of_below h)
    obtain ⟨pl, cl, pa, ca, g1, g2, g3, g4, g5, g6, g7, g8, g9⟩ := hkids i hi
    exact ⟨pl, cl, pa, ca, ⟨_, _, rfl, g1.stays hk, g2.stays hk⟩, hk.2 _ _ _ g3, hk.2 _ _ _ g4, hk.2 _ _ _ g5, hk.2 _ _ _ g6, hk.2 _ _ _ g7, hk.2 _ _ _ g8, hk.2 _ _ _ g9⟩
  obtain ⟨q0, q1, q2, q3, q4, q5, q6⟩ := hB.cells7
  have HBW := Lib.hid hb1
  have HIH := Lib.hid ih
  have HP := Lib.hid hp
  have HNM := Lib.hid hnm
  have HTY := Lib.hid hty
  generalize hR : ((n == 0) && (ty == 0) && (name == ⟨#[]⟩) && ((a.length : Int) == 1) && formLR l) = R at *
  have HR := Lib.hid hR
  generalize hFA : frmL a = FA
  have HFA := Lib.hid hFA
  have hmm := @run_makeMap Tryz.prog
  clear hB hb1 hl ha hm hR hFA ih hp hkids h1 hnm hty
  go_enter Tryz.func63, Tryz.ntmps63
  go_wp2_with (fail)
  clear q0 q1 q2 q3 q4 q5 q6 eW
  go_loopw [4, 10] (fun _ i ws => ∃ (k : Nat) (wo : World), k ≤ a.length ∧ i = .int .i64 k ∧ wo = ws ∧ Hid (Below W1.heap.size W1 wo) ∧ Hid (∀ j (hj : j < a.length), j < k → frmE a[j] = true)) (fun _ i _ => a.length - (intOf i).toNat)
  case atStart => exact ⟨0, _, Nat.zero_le _, rfl, rfl, Below.refl _ _, fun j _ h => absurd h (by omega)⟩
  case round =>
    obtain ⟨k, wo, hk, rfl, rfl, HB, HA⟩ := hrel
    by_cases hlt : k < a.length
    · obtain ⟨pl', cl', pa', ca', hy, g0, g1, g2, g3, g4, g5, g6⟩ := HKD.out wo HB.out k hlt
      obtain rfl := HP.out (by omega)
      have hki : (k : Int) < (a.length : Int) := by omega
      have hk0 : (0 : Int) ≤ (k : Int) := by omega
      have hkm : (k : Int) + 1 ≤ 9223372036854775807 := by omega
      have HC0 := Lib.hid (HIH.out k hlt)
      have HAT : Hid (frmE a[k] = false → frmL a = false) := fun h => frmL_at hlt h
      have HAN : Hid (frmE a[k] = true → ∀ j (hj : j < a.length), j < k + 1 → frmE a[j] = true) := fun h j h1 h3 => by
        rcases Nat.lt_or_ge j k with h4 | h4
        · exact HA.out j h1 h4
        · obtain rfl : j = k := by omega
          exact h
      have HLT := Lib.hid hlt
      generalize a[k] = y at *
      obtain ⟨W2, eW2⟩ : ∃ W2, wo.alloc (.cells #[.int .i64 y.kind, .int .i64 y.at_, .int .i64 y.num, .int .i64 y.ty, .string y.name, .slice pl' y.lab.length cl', .slice pa' y.kids.length ca'] 26) = W2 := ⟨_, rfl⟩
      have hb2 : Below wo.heap.size wo W2 := by rw [← eW2]; exact (Below.refl _ _).alloc (Nat.le_refl _) _
      have hB2 : Blk W2 wo.heap.size (exC y (.slice pl' y.lab.length cl') (.slice pa' y.kids.length ca')) 26 := by rw [← eW2]; exact Blk.new _ _ _
      have HB2 := Lib.hid (HB.out.trans (hb2.mono HB.out.size))
      have HC := Lib.hid (HC0.out W2 _ (HML.out W2 HB2.out) (hy.stays (keeps_of_below hb2)))
      obtain ⟨c0, c1, c2, c3, c4, c5, c6⟩ := hB2.cells7
      clear hb2 hB2 hy hk hlt HC0
      cases hs : frmE y with
      | true =>
        have HN := Lib.hid (HAN.out hs)
        rw [hs] at HC
        clear hs HAT HAN
        go_wp2_with (fail)
        refine HC.out.mono ?_
        rintro e w3 ⟨rfl, hb3⟩
        have HB3 := Lib.hid (HB2.out.trans (hb3.mono HB2.out.size))
        clear hb3
        go_wp2_with (fail)
        go_roundw
        case rel => exact ⟨k + 1, _, by have h1 := HLT.out; omega, by go_num, rfl, HB3.out, HN.out⟩
        case measure => have h1 := HLT.out; simp [intOf]; omega
      | false =>
        have HN := Lib.hid (HAT.out hs)
        rw [hs] at HC
        clear hs HAT HAN
        go_wp2_with (fail)
        refine HC.out.mono ?_
        rintro e w3 ⟨rfl, hb3⟩
        have HB3 := Lib.hid (HB2.out.trans (hb3.mono HB2.out.size))
        clear hb3
        go_wp2_with (fail)
        go_ret
        exact ⟨by rw [← HFA.out, HN.out]; rfl, HBW.out.trans (HB3.out.mono HBW.out.size)⟩
    · have hki : ¬ (k : Int) < (a.length : Int) := by omega
      have HALL : Hid (frmL a = true) := frmL_all fun j hj => HA.out j hj (by omega)
      have HBz : Hid (Below W1.heap.size W1 wo) := Lib.hid HB.out
      obtain ⟨q0, q1, q2, q3, q4, q5, q6⟩ := HQ.out wo HBz.out
      generalize hfit : formLR l = fl at *
      generalize hnam : isName name = nm at *
      generalize hlev : levelT name = lv at *
      have HL2 : Hid (levelT name = lv) := hlev
      have HN2 : Hid (isName name = nm) := hnam
      clear hfit hnam hlev hlt hk
      cases fl
      all_goals (
        go_wp2_with (first
          | (go_at_call 26; refine (levelOf_calls name _ HNM.out).mono ?_; rintro e w2 ⟨rfl, hb2⟩; replace HBz := Lib.hid (HBz.out.trans (hb2.mono HBz.out.size)); clear hb2; clear q0 q1 q2 q3 q4 q5 q6; obtain ⟨q0, q1, q2, q3, q4, q5, q6⟩ := HQ.out _ HBz.out; rw [HL2.out])
          | (go_at_call 96; refine (refNameM_calls name _ HNM.out (HML.out _ HBz.out)).mono ?_; rintro e w3 ⟨rfl, hb3⟩; replace HBz := Lib.hid (HBz.out.trans (hb3.mono HBz.out.size)); clear hb3; clear q0 q1 q2 q3 q4 q5 q6; obtain ⟨q0, q1, q2, q3, q4, q5, q6⟩ := HQ.out _ HBz.out; rw [HN2.out])
          | (go_at_call 97; refine (HFI.out _ HBz.out).mono ?_; rintro e w4 ⟨rfl, hb4⟩; replace HBz := Lib.hid (HBz.out.trans (hb4.mono HBz.out.size)); clear hb4; clear q0 q1 q2 q3 q4 q5 q6; obtain ⟨q0, q1, q2, q3, q4, q5, q6⟩ := HQ.out _ HBz.out)))
      all_goals (
        go_ret
        refine ⟨ret_bool ?_, HBW.out.trans (HBz.out.mono HBW.out.size)⟩
        first
          | (rw [← HR.out, ← HFA.out, HALL.out]; done)
          | (rw [← HR.out, ← HFA.out, HALL.out]; simp [txt_beq, e_list, minus_list, not_list, *]; done)
          | (rw [← HR.out, ← HFA.out, HALL.out]; simp [txt_beq, e_list, minus_list, not_list, *]; intros; first | (exfalso; omega) | (rw [Bool.eq_iff_iff]; simp; done) | (rw [Bool.eq_iff_iff]; simp [*]; done) | ((try constructor) <;> intros <;> omega)))
set_option maxHeartbeats 8000000 in
set_option maxRecDepth 100000 in
theorem frm_0 (at_ n ty : Int) (name : Txt) (l : Lab) (a : List Ex) (vl va : Value) (w : World) (kd : Int) (hk : ¬ kd = 1 ∧ ¬ kd = 2 ∧ ¬ kd = 3 ∧ ¬ kd = 4 ∧ ¬ kd = 5) (hl : Lbl w l vl) (ha : Exs w a va) (hm : MaxL w) (hnm : okTxt name) (hty : (Lit.int .i64 ty).wf = true)
    (ih : ∀ (k : Nat) (h : k < a.length) (W : World) (v : Value), MaxL W → ExIs W a[k] v → Calls Tryz.prog 63 #[v] W fun e w' => e = .returned (.bool (frmE a[k])) ∧ Below W.heap.size W w') :
    Calls Tryz.prog 63 #[.agg #[.int .i64 kd, .int .i64 at_, .int .i64 n, .int .i64 ty, .string name, vl, va]] w fun e w' =>
      e = .returned (.bool (frmL a && (false))) ∧ Below w.heap.size w w' := by
  obtain ⟨pl, cl, rfl, h1⟩ := hl
  have hl : Lbl w l (.slice pl l.length cl) := ⟨pl, cl, rfl, h1⟩
  obtain ⟨b, o, c, p, rfl, hmax, hp, hkids⟩ := ha.at
  obtain ⟨W1, eW⟩ : ∃ W1, w.alloc (.cells #[.int .i64 kd, .int .i64 at_, .int .i64 n, .int .i64 ty, .string name, .slice pl l.length cl, .slice p a.length c] 26) = W1 := ⟨_, rfl⟩
  have hb1 : Below w.heap.size w W1 := by rw [← eW]; exact (Below.refl _ _).alloc (Nat.le_refl _) _
  have hB : Blk W1 w.heap.size [.int .i64 kd, .int .i64 at_, .int .i64 n, .int .i64 ty, .string name, .slice pl l.length cl, .slice p a.length c] 26 := by rw [← eW]; exact Blk.new _ _ _
  have HQ : Hid (∀ W, Below W1.heap.size W1 W → W.cell? ⟨w.heap.size, 0, none⟩ = some (.int .i64 kd) ∧ W.cell? ⟨w.heap.size, 1, none⟩ = some (.int .i64 at_) ∧ W.cell? ⟨w.heap.size, 2, none⟩ = some (.int .i64 n) ∧ W.cell? ⟨w.heap.size, 3, none⟩ = some (.int .i64 ty) ∧ W.cell? ⟨w.heap.size, 4, none⟩ = some (.string name) ∧ W.cell? ⟨w.heap.size, 5, none⟩ = some (.slice pl l.length cl) ∧ W.cell? ⟨w.heap.size, 6, none⟩ = some (.slice p a.length c)) := fun W hb => (hB.below hb).cells7
  have HML : Hid (∀ W, Below W1.heap.size W1 W → MaxL W) := fun W hb => (hm.below hb1).below hb
  have HFI : Hid (∀ W, Below W1.heap.size W1 W → Calls Tryz.prog 97 #[.slice pl l.length cl] W fun e w' => e = .returned (.bool (formLR l)) ∧ Below W.heap.size W w') := fun W hb => formLabel_calls l _ W (hl.stays (keeps_of_below (hb1.trans (hb.mono hb1.size)))) ((hm.below hb1).below hb)
  have HKD : Hid (∀ W, Below W1.heap.size W1 W → ∀ (i : Nat) (hi : i < a.length), ∃ pl cl pa ca, ExIs W a[i] (.agg #[.int .i64 a[i].kind, .int .i64 a[i].at_, .int .i64 a[i].num, .int .i64 a[i].ty, .string a[i].name, .slice pl a[i].lab.length cl, .slice pa a[i].kids.length ca]) ∧
      W.cell? ⟨b, o + i * 7, none⟩ = some (.int .i64 a[i].kind) ∧ W.cell? ⟨b, o + i * 7 + 1, none⟩ = some (.int .i64 a[i].at_) ∧ W.cell? ⟨b, o + i * 7 + 2, none⟩ = some (.int .i64 a[i].num) ∧ W.cell? ⟨b, o + i * 7 + 3, none⟩ = some (.int .i64 a[i].ty) ∧
      W.cell? ⟨b, o + i * 7 + 4, none⟩ = some (.string a[i].name) ∧ W.cell? ⟨b, o + i * 7 + 5, none⟩ = some (.slice pl a[i].lab.length cl) ∧ W.cell? ⟨b, o + i * 7 + 6, none⟩ = some (.slice pa a[i].kids.length ca)) := fun W h i hi => by
    have hk := (keeps_of_below hb1).trans (keeps_of_below h)
    obtain ⟨pl, cl, pa, ca, g1, g2, g3, g4, g5, g6, g7, g8, g9⟩ := hkids i hi
    exact ⟨pl, cl, pa, ca, ⟨_, _, rfl, g1.stays hk, g2.stays hk⟩, hk.2 _ _ _ g3, hk.2 _ _ _ g4, hk.2 _ _ _ g5, hk.2 _ _ _ g6, hk.2 _ _ _ g7, hk.2 _ _ _ g8, hk.2 _ _ _ g9⟩
  obtain ⟨q0, q1, q2, q3, q4, q5, q6⟩ := hB.cells7
  have HBW := Lib.hid hb1
  have HIH := Lib.hid ih
  have HP := Lib.hid hp
  have HNM := Lib.hid hnm
  have HTY := Lib.hid hty
  obtain ⟨k1, k2, k3, k4, k5⟩ := hk
  generalize hR : (false) = R at *
  have HR := Lib.hid hR
  generalize hFA : frmL a = FA
  have HFA := Lib.hid hFA
  have hmm := @run_makeMap Tryz.prog
  clear hB hb1 hl ha hm hR hFA ih hp hkids h1 hnm hty
  go_enter Tryz.func63, Tryz.ntmps63
  go_wp2_with (fail)
  clear q0 q1 q2 q3 q4 q5 q6 eW
  go_loopw [4, 10] (fun _ i ws => ∃ (k : Nat) (wo : World), k ≤ a.length ∧ i = .int .i64 k ∧ wo = ws ∧ Hid (Below W1.heap.size W1 wo) ∧ Hid (∀ j (hj : j < a.length), j < k → frmE a[j] = true)) (fun _ i _ => a.length - (intOf i).toNat)
  case atStart => exact ⟨0, _, Nat.zero_le _, rfl, rfl, Below.refl _ _, fun j _ h => absurd h (by omega)⟩
  case round =>
    obtain ⟨k, wo, hk, rfl, rfl, HB, HA⟩ := hrel
    by_cases hlt : k < a.length
    · obtain ⟨pl', cl', pa', ca', hy, g0, g1, g2, g3, g4, g5, g6⟩ := HKD.out wo HB.out k hlt
      obtain rfl := HP.out (by omega)
      have hki : (k : Int) < (a.length : Int) := by omega
      have hk0 : (0 : Int) ≤ (k : Int) := by omega
      have hkm : (k : Int) + 1 ≤ 9223372036854775807 := by omega
      have HC0 := Lib.hid (HIH.out k hlt)
      have HAT : Hid (frmE a[k] = false → frmL a = false) := fun h => frmL_at hlt h
      have HAN : Hid (frmE a[k] = true → ∀ j (hj : j < a.length), j < k + 1 → frmE a[j] = true) := fun h j h1 h3 => by
        rcases Nat.lt_or_ge j k with h4 | h4
        · exact HA.out j h1 h4
        · obtain rfl : j = k := by omega
          exact h
      have HLT := Lib.hid hlt
      generalize a[k] = y at *
      obtain ⟨W2, eW2⟩ : ∃ W2, wo.alloc (.cells #[.int .i64 y.kind, .int .i64 y.at_, .int .i64 y.num, .int .i64 y.ty, .string y.name, .slice pl' y.lab.length cl', .slice pa' y.kids.length ca'] 26) = W2 := ⟨_, rfl⟩
      have hb2 : Below wo.heap.size wo W2 := by rw [← eW2]; exact (Below.refl _ _).alloc (Nat.le_refl _) _
      have hB2 : Blk W2 wo.heap.size (exC y (.slice pl' y.lab.length cl') (.slice pa' y.kids.length ca')) 26 := by rw [← eW2]; exact Blk.new _ _ _
      have HB2 := Lib.hid (HB.out.trans (hb2.mono HB.out.size))
      have HC := Lib.hid (HC0.out W2 _ (HML.out W2 HB2.out) (hy.stays (keeps_of_below hb2)))
      obtain ⟨c0, c1, c2, c3, c4, c5, c6⟩ := hB2.cells7
      clear hb2 hB2 hy hk hlt HC0
      cases hs : frmE y with
      | true =>
        have HN := Lib.hid (HAN.out hs)
        rw [hs] at HC
        clear hs HAT HAN
        go_wp2_with (fail)
        refine HC.out.mono ?_
        rintro e w3 ⟨rfl, hb3⟩
        have HB3 := Lib.hid (HB2.out.trans (hb3.mono HB2.out.size))
        clear hb3
        go_wp2_with (fail)
        go_roundw
        case rel => exact ⟨k + 1, _, by have h1 := HLT.out; omega, by go_num, rfl, HB3.out, HN.out⟩
        case measure => have h1 := HLT.out; simp [intOf]; omega
      | false =>
        have HN := Lib.hid (HAT.out hs)
        rw [hs] at HC
        clear hs HAT HAN
        go_wp2_with (fail)
        refine HC.out.mono ?_
        rintro e w3 ⟨rfl, hb3⟩
        have HB3 := Lib.hid (HB2.out.trans (hb3.mono HB2.out.size))
        clear hb3
        go_wp2_with (fail)
        go_ret
        exact ⟨by rw [← HFA.out, HN.out]; rfl, HBW.out.trans (HB3.out.mono HBW.out.size)⟩
    · have hki : ¬ (k : Int) < (a.length : Int) := by omega
      have HALL : Hid (frmL a = true) := frmL_all fun j hj => HA.out j hj (by omega)
      have HBz : Hid (Below W1.heap.size W1 wo) := Lib.hid HB.out
      obtain ⟨q0, q1, q2, q3, q4, q5, q6⟩ := HQ.out wo HBz.out
      generalize hfit : formLR l = fl at *
      generalize hnam : isName name = nm at *
      generalize hlev : levelT name = lv at *
      have HL2 : Hid (levelT name = lv) := hlev
      have HN2 : Hid (isName name = nm) := hnam
      clear hfit hnam hlev hlt hk
      skip
      all_goals (
        go_wp2_with (first
          | (go_at_call 26; refine (levelOf_calls name _ HNM.out).mono ?_; rintro e w2 ⟨rfl, hb2⟩; replace HBz := Lib.hid (HBz.out.trans (hb2.mono HBz.out.size)); clear hb2; clear q0 q1 q2 q3 q4 q5 q6; obtain ⟨q0, q1, q2, q3, q4, q5, q6⟩ := HQ.out _ HBz.out; rw [HL2.out])
          | (go_at_call 96; refine (refNameM_calls name _ HNM.out (HML.out _ HBz.out)).mono ?_; rintro e w3 ⟨rfl, hb3⟩; replace HBz := Lib.hid (HBz.out.trans (hb3.mono HBz.out.size)); clear hb3; clear q0 q1 q2 q3 q4 q5 q6; obtain ⟨q0, q1, q2, q3, q4, q5, q6⟩ := HQ.out _ HBz.out; rw [HN2.out])
          | (go_at_call 97; refine (HFI.out _ HBz.out).mono ?_; rintro e w4 ⟨rfl, hb4⟩; replace HBz := Lib.hid (HBz.out.trans (hb4.mono HBz.out.size)); clear hb4; clear q0 q1 q2 q3 q4 q5 q6; obtain ⟨q0, q1, q2, q3, q4, q5, q6⟩ := HQ.out _ HBz.out)))
      all_goals (
        go_ret
        refine ⟨ret_bool ?_, HBW.out.trans (HBz.out.mono HBW.out.size)⟩
        first
          | (rw [← HR.out, ← HFA.out, HALL.out]; done)
          | (rw [← HR.out, ← HFA.out, HALL.out]; simp [txt_beq, e_list, minus_list, not_list, *]; done)
          | (rw [← HR.out, ← HFA.out, HALL.out]; simp [txt_beq, e_list, minus_list, not_list, *]; intros; first | (exfalso; omega) | (rw [Bool.eq_iff_iff]; simp; done) | (rw [Bool.eq_iff_iff]; simp [*]; done) | ((try constructor) <;> intros <;> omega)))
end Go.Proofs.YtmepcmnpmhhiiaaGreatDoor
namespace Go.Proofs.YtmepcmnpmhhiiaaGreatDoor
open Go.RowKit Go.Maps
set_option linter.unusedVariables false
set_option linter.unusedSimpArgs false

def visN : Int → Ex → Int → Bool × Int := fun n _ d => (decide (d ≤ 12), IntKind.i64.wrap (n + 1))
theorem visits_size (C : Nat) : Visits (σ := Int) C 62 #[.pointer (some ⟨C, 0, none⟩)] (fun n W => Blk W C [.int .i64 n] 3) visN := by
  intro n W x v deep h1 h2 hC hI hx
  obtain ⟨vl, va, rfl, hl, ha⟩ := hx
  obtain ⟨pl, cl, rfl, _⟩ := hl
  obtain ⟨pa, ca, rfl, _⟩ := ha
  obtain ⟨W1, eW⟩ : ∃ W1, W.alloc (.cells #[.int .i64 x.kind, .int .i64 x.at_, .int .i64 x.num, .int .i64 x.ty, .string x.name, .slice pl x.lab.length cl, .slice pa x.kids.length ca] 26) = W1 := ⟨_, rfl⟩
  have hb1 : Below W.heap.size W W1 := by rw [← eW]; exact (Below.refl _ _).alloc (Nat.le_refl _) _
  have hI1 := hI.below hb1
  have c0 := hI1.cell 0
  simp only [List.getElem?_cons_zero] at c0
  have f0 := hI1.fz 0
  have HB1 := Lib.hid hb1
  have HI1 := Lib.hid hI1
  clear hb1 hI1 hI
  unfold visN
  generalize hq : IntKind.i64.wrap (n + 1) = q
  simp only [List.push_toArray, List.append_toArray, List.cons_append, List.nil_append]
  by_cases hd : deep ≤ 12
  · go_enter Tryz.func62, Tryz.ntmps62
    go_wp2_with (fail)
    go_ret
    exact ⟨by simp [hd], (aside_below HB1.out).trans (aside_set _ _), HI1.out.set 0 _⟩
  · go_enter Tryz.func62, Tryz.ntmps62
    go_wp2_with (fail)
    go_ret
    exact ⟨by simp [hd], (aside_below HB1.out).trans (aside_set _ _), HI1.out.set 0 _⟩
/-- How many an expression has, and the error. -/
def sizeE (x : Ex) : Int := if (walkS visN 12 0 x).1 then 0 else 2
def sizeN (x : Ex) : Int := if (walkS visN 12 0 x).1 then (walkS visN 12 0 x).2 else 0
set_option maxRecDepth 100000 in
theorem size_calls (x : Ex) (v : Value) (w : World) (hx : ExIs w x v) : Calls Tryz.prog 22 #[v] w fun e w' => e = .returned (.tuple #[.int .i64 (sizeN x), .int .i64 (sizeE x)]) ∧ Below w.heap.size w w' := by
  have hmf : ∀ (fn : Fn) (first cap : Array Value) (w : World), (Instr.makeFunc fn first cap).run Tryz.prog w = .ok (.func fn first cap) w := fun _ _ _ _ => rfl
  have eg : ∀ args w, (callFunc 62 args).run Tryz.prog w = .ok (.enter 62 args) w := enters_at Tryz.func62 (by kernel_rfl) rfl
  have hx0 := hx
  obtain ⟨vl, va, rfl, hl, ha⟩ := hx
  obtain ⟨pl, cl, rfl, _⟩ := hl
  obtain ⟨pa, ca, rfl, _⟩ := ha
  obtain ⟨W2, eW⟩ : ∃ W2, (w.alloc (.cells #[.int .i64 x.kind, .int .i64 x.at_, .int .i64 x.num, .int .i64 x.ty, .string x.name, .slice pl x.lab.length cl, .slice pa x.kids.length ca] 26)).alloc (.cells #[.int .i64 0] 3) = W2 := ⟨_, rfl⟩
  obtain ⟨z2, hb2, m0, m1⟩ := boxes2 eW
  have hB : Blk W2 w.heap.size (exC x (.slice pl x.lab.length cl) (.slice pa x.kids.length ca)) 26 := by rw [← eW]; exact (Blk.new _ _ _).below ((Below.refl _ _).alloc (Nat.le_refl _) _)
  have hC : Blk W2 (w.heap.size + 1) [.int .i64 0] 3 := by rw [← eW]; exact Blk.new2 _ _ _ _ _
  have HW := walk_calls (visits_size (w.heap.size + 1)) eg (fun s W W' h hb hC => h.below hb) 12 (Nat.le_refl _) 0 W2 x _ hC.lt hC (hx0.stays (mask_new (Nat.le_succ _) hb2))
  have HWH := Lib.hid HW
  have HF : Hid (sizeN x = (if (walkS visN 12 0 x).1 then (walkS visN 12 0 x).2 else 0) ∧ sizeE x = if (walkS visN 12 0 x).1 then 0 else 2) := ⟨rfl, rfl⟩
  obtain ⟨q0, q1, q2, q3, q4, q5, q6⟩ := hB.cells7
  have c0 := hC.cell 0
  simp only [List.getElem?_cons_zero] at c0
  have f0 := hC.fz 0
  have s0 := hC.same (i := 0) rfl
  have HB2 := Lib.hid hb2
  clear hx0 hB hC hb2 HW m0 m1 z2
  generalize walkS visN 12 0 x = r at *
  obtain ⟨b, n⟩ := r
  cases b with
  | true =>
    go_enter Tryz.func22, Tryz.ntmps22
    go_wp2_with (fail)
    refine HWH.out.mono ?_
    rintro e w3 ⟨rfl, ha3, hi3⟩
    have d0 := hi3.cell 0
    simp only [List.getElem?_cons_zero] at d0
    have HA := Lib.hid (below_of_aside HB2.out (Nat.le_succ _) ha3)
    clear ha3 hi3
    go_wp2_with (fail)
    go_ret2
    exact ⟨by rw [HF.out.1, HF.out.2]; rfl, HA.out⟩
  | false =>
    go_enter Tryz.func22, Tryz.ntmps22
    go_wp2_with (fail)
    refine HWH.out.mono ?_
    rintro e w3 ⟨rfl, ha3, hi3⟩
    have HA := Lib.hid (below_of_aside HB2.out (Nat.le_succ _) ha3)
    clear ha3 hi3
    go_wp2_with (fail)
    go_ret2
    exact ⟨by rw [HF.out.1, HF.out.2]; rfl, HA.out⟩
end Go.Proofs.YtmepcmnpmhhiiaaGreatDoor
namespace Go.Proofs.YtmepcmnpmhhiiaaGreatDoor
open Go.RowKit Go.Maps
set_option linter.unusedVariables false
set_option linter.unusedSimpArgs false

theorem one_of {α : Type} {l : List α} (h : l.length = 1) : ∃ y, l = [y] := by
  match l, h with
  | [y], _ => exact ⟨y, rfl⟩
theorem two_of {α : Type} {l : List α} (h : l.length = 2) : ∃ y z, l = [y, z] := by
  match l, h with
  | [y, z], _ => exact ⟨y, z, rfl⟩
theorem text_step {x : Ex} {d : Int} (hf : formB x d = true) {W : World} (ht : Tab W) (hpw : Pow W) (hsz : ∀ y ∈ x.kids, ∀ t, (textP y t).size ≤ 413867158356) (hk : ∀ y ∈ x.kids, ∀ t, TextC W y t) (v : Value) (hx : ExIs W x v) (t : Int) :
    Calls Tryz.prog 43 #[v, .int .i64 t] W fun e w' => e = .returned (.string (textP x t)) ∧ Below W.heap.size W w' := by
  have hw := form_ways hf
  obtain ⟨kind, at_, num, ty, name, l, a⟩ := x
  obtain ⟨vl, va, rfl, hl, ha⟩ := hx
  obtain ⟨pl, cl, rfl, hl3⟩ := hl
  obtain ⟨pa, ca, rfl, ha3⟩ := ha
  have hl : Lbl W l (.slice pl l.length cl) := ⟨pl, cl, rfl, hl3⟩
  have ha : Exs W a (.slice pa a.length ca) := ⟨pa, ca, rfl, ha3⟩
  simp only [Ex.kind, Ex.kids, Ex.name, Ex.lab, Ex.num, Ex.ty] at hw hsz hk ⊢
  rcases hw with ⟨rfl, h1, rfl, h2, ⟨rfl, h3, h4⟩ | ⟨rfl, rfl | rfl⟩⟩ | ⟨rfl, h1, h2, h3, h4, h5⟩ | ⟨rfl, ⟨h1, h5⟩ | ⟨h1, h5⟩, h2, h3, h4⟩ | ⟨rfl, h1, h2, h3, h4, h5⟩ | ⟨rfl, h1, h2, h3, h4, h5⟩
  · exact text_num at_ num t _ l a pl cl pa ca W h3 h4 hpw
  · exact text_false at_ t _ l a pl cl pa ca W
  · exact text_true at_ t _ l a pl cl pa ca W
  · exact text_var at_ num ty t _ l a pl cl pa ca W
  · obtain ⟨y, rfl⟩ := one_of h1
    exact text_one at_ num ty t name l pl cl pa ca W y ha (by rcases h5 with rfl | rfl <;> decide) (hsz y (by simp) 6) (hk y (by simp) 6)
  · obtain ⟨y, z, rfl⟩ := two_of h1
    have h2s := levelT_size h5
    by_cases hq : levelT name < t
    · exact text_two_in at_ num ty t name l pl cl pa ca W y z ht hq h5 h2s ha (hsz y (by simp) _) (hsz z (by simp) _) (hk y (by simp) _) (hk z (by simp) _)
    · exact text_two at_ num ty t name l pl cl pa ca W y z ht hq h5 h2s ha (hsz y (by simp) _) (hsz z (by simp) _) (hk y (by simp) _) (hk z (by simp) _)
  · exact text_call at_ num ty t name l a pl cl pa ca W ha h2 (isName_size h1) (fun y hy => hsz y hy 0) (fun y hy => hk y hy 0)
  · obtain ⟨y, rfl⟩ := one_of h1
    exact text_rel at_ num ty t name l pl cl pa ca W y hl ha (hsz y (by simp) 0) (hk y (by simp) 0)
theorem text_calls : ∀ (n : Nat), n ≤ 12 → ∀ (x : Ex), Fm n x → ∀ (w : World) (t : Int), Tab w → Pow w → TextC w x t := by
  intro n
  induction n with
  | zero =>
    intro hn x hf w t ht hp W v hb hx
    exact text_step hf.form (ht.below hb) (hp.below hb) (fun y hy => by rw [hf.none] at hy; cases hy) (fun y hy => by rw [hf.none] at hy; cases hy) v hx t
  | succ n ih =>
    intro hn x hf w t ht hp W v hb hx
    exact text_step hf.form (ht.below hb) (hp.below hb) (fun y hy t => Nat.le_trans (text_size n y t (hf.kids y hy)) (lim_le (by omega))) (fun y hy t => ih (by omega) y (hf.kids y hy) W t (ht.below hb) (hp.below hb)) v hx t
/-- An expression's text, and the error. -/
def textE (x : Ex) : Int := if formedS x then 0 else 4
def textS (x : Ex) : Txt := if formedS x then textP x 0 else ⟨#[]⟩
set_option maxRecDepth 100000 in
theorem textTop_calls (x : Ex) (v : Value) (w : World) (hx : ExIs w x v) (ht : Tab w) (hp : Pow w) : Calls Tryz.prog 9 #[v] w fun e w' => e = .returned (.tuple #[.string (textS x), .int .i64 (textE x)]) ∧ Below w.heap.size w w' := by
  have hx0 := hx
  obtain ⟨vl, va, rfl, hl, ha⟩ := hx
  obtain ⟨pl, cl, rfl, _⟩ := hl
  obtain ⟨pa, ca, rfl, _⟩ := ha
  obtain ⟨W1, eW⟩ : ∃ W1, w.alloc (.cells #[.int .i64 x.kind, .int .i64 x.at_, .int .i64 x.num, .int .i64 x.ty, .string x.name, .slice pl x.lab.length cl, .slice pa x.kids.length ca] 26) = W1 := ⟨_, rfl⟩
  have hb1 : Below w.heap.size w W1 := by rw [← eW]; exact (Below.refl _ _).alloc (Nat.le_refl _) _
  have hB1 : Blk W1 w.heap.size (exC x (.slice pl x.lab.length cl) (.slice pa x.kids.length ca)) 26 := by rw [← eW]; exact Blk.new _ _ _
  obtain ⟨q0, q1, q2, q3, q4, q5, q6⟩ := hB1.cells7
  have HF := Lib.hid (formed_calls x _ W1 (hx0.stays (keeps_of_below hb1)) (ht.below hb1))
  have HB1 := Lib.hid hb1
  have HBK := Lib.hid hB1
  cases hf : formedS x with
  | true =>
    have HT : Hid (∀ W, Below W1.heap.size W1 W → Calls Tryz.prog 43 #[.agg #[.int .i64 x.kind, .int .i64 x.at_, .int .i64 x.num, .int .i64 x.ty, .string x.name, .slice pl x.lab.length cl, .slice pa x.kids.length ca], .int .i64 0] W fun e w' => e = .returned (.string (textP x 0)) ∧ Below W.heap.size W w') := fun W hb =>
      text_calls 12 (Nat.le_refl _) x hf w 0 ht hp W _ (hb1.trans (hb.mono hb1.size)) (hx0.stays (keeps_of_below (hb1.trans (hb.mono hb1.size))))
    have HR : Hid (textS x = textP x 0 ∧ textE x = 0) := by unfold Hid textS textE; rw [hf]; exact ⟨rfl, rfl⟩
    rw [hf] at HF
    generalize textP x 0 = J at *
    clear hx0 hB1 hb1 ht hp hf
    go_enter Tryz.func9, Tryz.ntmps9
    go_wp2_with (fail)
    refine HF.out.mono ?_
    rintro e w2 ⟨rfl, hb2⟩
    have HT2 := Lib.hid (HT.out w2 hb2)
    clear q0 q1 q2 q3 q4 q5 q6
    obtain ⟨q0, q1, q2, q3, q4, q5, q6⟩ := (HBK.out.below hb2).cells7
    have HB2 := Lib.hid hb2
    clear hb2
    go_wp2_with (fail)
    refine HT2.out.mono ?_
    rintro e w3 ⟨rfl, hb3⟩
    go_wp2_with (fail)
    go_ret2
    exact ⟨by rw [HR.out.1, HR.out.2]; rfl, HB1.out.trans ((HB2.out.trans (hb3.mono HB2.out.size)).mono HB1.out.size)⟩
  | false =>
    have HR : Hid (textS x = ⟨#[]⟩ ∧ textE x = 4) := by unfold Hid textS textE; rw [hf]; exact ⟨rfl, rfl⟩
    rw [hf] at HF
    clear hx0 hB1 hb1 ht hp hf
    go_enter Tryz.func9, Tryz.ntmps9
    go_wp2_with (fail)
    refine HF.out.mono ?_
    rintro e w2 ⟨rfl, hb2⟩
    go_wp2_with (fail)
    go_ret2
    exact ⟨by rw [HR.out.1, HR.out.2]; rfl, HB1.out.trans (hb2.mono HB1.out.size)⟩
end Go.Proofs.YtmepcmnpmhhiiaaGreatDoor
namespace Go.Proofs.YtmepcmnpmhhiiaaGreatDoor
open Go.RowKit
set_option linter.unusedVariables false
set_option linter.unusedSimpArgs false

theorem fits_form (l : Lab) : fitsB l = formLR l := by
  unfold fitsB formLR
  have h1 : (printE l == 0) = !longL l := by unfold printE; cases longL l <;> rfl
  have h2 : (fun p : Pol => !isName p.1 || !(!anyBy p.2 fun s => !isName s)) = polBad := by
    funext p
    unfold polBad
    simp
  rw [h1, h2]
theorem form_frmK (x : Ex) (d : Int) : formB x d = (decide (d ≤ 12) && frmK x.kind x.num x.ty x.name x.lab x.kids.length) := by
  unfold formB frmK
  by_cases hd : d ≤ 12
  · simp only [hd, decide_true, Bool.true_and]
    split
    · have ht : ((x.ty == 1 && decide (0 ≤ x.num) && decide (x.num ≤ 999999999)) || (x.ty == 2 && (x.num == 0 || x.num == 1))) = (decide (0 < topV x.ty) && decide (0 ≤ x.num) && decide (x.num ≤ topV x.ty)) := by
        unfold topV
        rw [Bool.eq_iff_iff]
        simp only [Bool.or_eq_true, Bool.and_eq_true, beq_iff_eq, decide_eq_true_eq]
        by_cases h2 : x.ty = 2
        · rw [if_pos h2]; omega
        · rw [if_neg h2]
          by_cases h1 : x.ty = 1
          · rw [if_pos h1]; omega
          · rw [if_neg h1]; omega
      rw [ht]
      rw [Bool.eq_iff_iff]
      simp only [Bool.and_eq_true]
      constructor <;> rintro ⟨_, _⟩ <;> simp_all
    · split
      · rw [Bool.eq_iff_iff]
        simp only [Bool.and_eq_true]
        constructor <;> rintro ⟨_, _⟩ <;> simp_all
      · split
        · rw [Bool.eq_iff_iff]
          simp only [Bool.and_eq_true, Bool.or_eq_true, Bool.not_eq_true', decide_eq_false_iff_not, decide_eq_true_eq, beq_iff_eq]
          constructor
          · rintro ⟨⟨⟨h1, h2⟩, h3⟩, h4⟩
            exact ⟨⟨⟨h2, h3⟩, by omega⟩, by rcases h1 with ⟨a, b | b⟩ | h1; exact .inr ⟨a, .inr b⟩; exact .inr ⟨a, .inl b⟩; exact .inl h1⟩
          · rintro ⟨⟨⟨h2, h3⟩, h4⟩, h1⟩
            exact ⟨⟨⟨by rcases h1 with h1 | ⟨a, b | b⟩; exact .inr h1; exact .inl ⟨a, .inr b⟩; exact .inl ⟨a, .inl b⟩, h2⟩, h3⟩, by omega⟩
        · split
          · rw [Bool.eq_iff_iff]
            simp only [Bool.and_eq_true]
            constructor <;> rintro ⟨_, _⟩ <;> simp_all
          · split
            · rw [fits_form, Bool.eq_iff_iff]
              simp only [Bool.and_eq_true]
              constructor <;> rintro ⟨_, _⟩ <;> simp_all
            · rfl
  · have hf : decide (d ≤ 12) = false := by simp [hd]
    simp only [hf, Bool.false_and]
    split
    · rfl
    · split
      · rfl
      · split
        · rfl
        · split
          · rfl
          · split <;> rfl
theorem frmE_eq (x : Ex) : frmE x = (frmL x.kids && frmK x.kind x.num x.ty x.name x.lab x.kids.length) := by
  cases x
  rw [frmE]
  rfl
theorem frmL_mem : ∀ {l : List Ex}, frmL l = true ↔ ∀ y ∈ l, frmE y = true
  | [] => by simp [frmL]
  | x :: r => by
    rw [frmL, Bool.and_eq_true, frmL_mem (l := r)]
    simp
theorem deepL_mem {n : Nat} : ∀ {l : List Ex}, deepL l ≤ n ↔ ∀ y ∈ l, deepE y ≤ n
  | [] => by simp [deepL]
  | x :: r => by
    rw [deepL, Nat.max_le, deepL_mem (l := r)]
    simp
theorem kidsS_unit {f : Unit → Ex → Bool × Unit} : ∀ {l : List Ex}, (kidsS f () l).1 = true ↔ ∀ y ∈ l, (f () y).1 = true
  | [] => by simp [kidsS]
  | x :: r => by
    simp only [kidsS]
    split
    · rename_i h
      rw [show (f () x).2 = () from rfl, kidsS_unit (l := r)]
      simp [h]
    · rename_i h
      simp [h]
theorem fm_iff : ∀ (n : Nat) (x : Ex), Fm n x ↔ deepE x ≤ n ∧ frmE x = true := by
  intro n
  induction n with
  | zero =>
    intro x
    constructor
    · intro h
      have := h.form
      rw [form_frmK] at this
      simp at this
    · rintro ⟨h, _⟩
      rw [deepE_eq] at h
      omega
  | succ n ih =>
    intro x
    unfold Fm
    rw [walkS_eq]
    unfold finS
    rw [deepE_eq, frmE_eq]
    have h1 : (kidsS (subS visF (n + 1)) () x.kids).1 = true ↔ deepL x.kids ≤ n ∧ frmL x.kids = true := by
      rw [kidsS_unit, deepL_mem, frmL_mem]
      constructor
      · intro h
        exact ⟨fun y hy => ((ih y).1 (h y hy)).1, fun y hy => ((ih y).1 (h y hy)).2⟩
      · rintro ⟨g, h⟩ y hy
        exact (ih y).2 ⟨g y hy, h y hy⟩
    cases hk : (kidsS (subS visF (n + 1)) () x.kids).1 with
    | true =>
      obtain ⟨g1, g2⟩ := h1.1 hk
      simp only [if_true]
      show formB x _ = true ↔ _
      rw [form_frmK, g2]
      have hd : decide ((13 : Int) - ((n + 1 : Nat) : Int) ≤ 12) = true := by simp; omega
      rw [hd]
      simp only [Bool.true_and]
      constructor
      · intro h; exact ⟨by omega, h⟩
      · rintro ⟨_, h⟩; exact h
    | false =>
      simp only [Bool.false_eq_true, if_false]
      constructor
      · intro h; exact absurd h (by simp)
      · rintro ⟨g1, g2⟩
        rw [Bool.and_eq_true] at g2
        rw [h1.2 ⟨by omega, g2.1⟩] at hk
        cases hk
theorem formedS_eq (x : Ex) : formedS x = (decide (deepE x ≤ 12) && frmE x) := by
  rw [Bool.eq_iff_iff, formedS_fm, fm_iff]
  simp
/-- How many are counted, so deep as is left. -/
theorem walkN : ∀ (n : Nat) (x : Ex) (s : Int), n ≤ 12 → 0 ≤ s → s + nodesE x ≤ 9000000000000000000 → (deepE x ≤ n → walkS visN n s x = (true, s + nodesE x)) ∧ (n < deepE x → (walkS visN n s x).1 = false) := by
  intro n
  induction n with
  | zero =>
    intro x s hn h0 h1
    refine ⟨fun h => by rw [deepE_eq] at h; omega, fun _ => ?_⟩
    rw [walkS_eq]
    unfold finS
    split
    · simp [visN]
    · rfl
  | succ n ih =>
    intro x s hn h0 h1
    have hk : ∀ (l : List Ex) (s : Int), 0 ≤ s → s + nodesL l ≤ 9000000000000000000 → (deepL l ≤ n → kidsS (walkS visN n) s l = (true, s + nodesL l)) ∧ (n < deepL l → (kidsS (walkS visN n) s l).1 = false) := by
      intro l
      induction l with
      | nil => intro s h0 h1; simp [kidsS, nodesL, deepL]
      | cons y r ihl =>
        intro s h0 h1
        rw [nodesL] at h1
        obtain ⟨a1, a2⟩ := ih y s (by omega) h0 (by omega)
        obtain ⟨b1, b2⟩ := ihl (s + nodesE y) (by omega) (by omega)
        simp only [kidsS, deepL, nodesL]
        by_cases hy : deepE y ≤ n
        · rw [a1 hy]
          simp only [if_true]
          constructor
          · intro h
            rw [b1 (by omega)]
            simp only [Prod.mk.injEq, true_and]
            omega
          · intro h
            exact b2 (by omega)
        · rw [a2 (by omega)]
          simp only [Bool.false_eq_true, if_false]
          exact ⟨fun h => by omega, fun _ => trivial⟩
    rw [walkS_eq]
    rw [nodesE_eq] at h1 ⊢
    rw [deepE_eq]
    obtain ⟨a1, a2⟩ := hk x.kids s h0 (by omega)
    show (_ → finS visN _ (kidsS (walkS visN n) s x.kids) x = _) ∧ (_ → (finS visN _ (kidsS (walkS visN n) s x.kids) x).1 = _)
    unfold finS
    constructor
    · intro h
      rw [a1 (by omega)]
      simp only [if_true, visN]
      rw [IntKind.wrap_i64]
      simp only [Prod.mk.injEq, decide_eq_true_eq]
      omega
    · intro h
      rw [a2 (by omega)]
      rfl
theorem size_deep {x : Ex} (hn : nodesE x ≤ 1048576) (h : 12 < deepE x) : sizeE x = 2 ∧ sizeN x = 0 := by
  unfold sizeE sizeN
  rw [(walkN 12 x 0 (by omega) (by omega) (by omega)).2 h]
  exact ⟨rfl, rfl⟩
theorem size_flat {x : Ex} (hn : nodesE x ≤ 1048576) (h : deepE x ≤ 12) : sizeE x = 0 ∧ sizeN x = nodesE x := by
  unfold sizeE sizeN
  rw [(walkN 12 x 0 (by omega) (by omega) (by omega)).1 h]
  exact ⟨rfl, by simp⟩
/-- Brackets stand where something binds less tightly. -/
theorem textP_tight {x : Ex} {d : Int} (hf : formB x d = true) (t : Int) (ht : 0 < t) : textP x t = quoteT (decide (x.kind = 3 ∧ x.kids.length = 2 ∧ levelT x.name < t)) (textP x 0) := by
  have hw := form_ways hf
  obtain ⟨kind, at_, num, ty, name, l, a⟩ := x
  simp only [Ex.kind, Ex.kids, Ex.name, Ex.lab, Ex.num, Ex.ty] at hw ⊢
  rcases hw with ⟨rfl, h⟩ | ⟨rfl, h⟩ | ⟨rfl, ⟨h1, h5⟩ | ⟨h1, h5⟩, h⟩ | ⟨rfl, h⟩ | ⟨rfl, h⟩
  · simp [textP, quoteT]
  · simp [textP, quoteT]
  · simp [textP, quoteT, h1]
  · have e : decide (levelT name < 0) = false := by simp; omega
    simp only [textP, h1, e]
    simp [quoteT]
  · simp [textP, quoteT]
  · simp [textP, quoteT]
end Go.Proofs.YtmepcmnpmhhiiaaGreatDoor
