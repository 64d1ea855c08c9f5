/- Texts of the proof that ParseExpr holds, part 8; no conditions. -/
import Derived.Test.YtmepcmnpmhhiiaaGreatDoorPE07
import Derived.Defers
namespace Go.Proofs.YtmepcmnpmhhiiaaGreatDoor
set_option linter.unusedVariables false
set_option linter.unusedSimpArgs false
set_option maxHeartbeats 8000000
set_option maxRecDepth 100000
section
open Go.RowKit Go.Maps
theorem expr_calls (hlev : LevelC) {B : Nat} {T : List Tok} {E : Int} {tv : Value} {dp ns : Nat} {prim : Nat → Rs Ex} (hm : Mono prim) (hp : ReadsEx B T E tv dp ns 136 #[.pointer (some ⟨B, 0, none⟩)] prim) :
 ∀ (j n : Nat), n + j = 6 → ReadsEx B T E tv dp ns 55 #[.pointer (some ⟨B, 0, none⟩), .int .i64 n] (exprL T prim j) := by
 intro j
 induction j with
 | zero =>
   intro n hn W k hr
   obtain rfl : n = 6 := by omega
   exact expr_six hp hr
 | succ j ih =>
   intro n hn W k hr
   have h1 := ih (n + 1) (by omega)
   have e1 : ((n + 1 : Nat) : Int) = (n : Int) + 1 := by omega
   rw [e1] at h1
   have h2 := expr_step hlev (exprL_mono hm j) (by omega : n < 6) h1 hr
   have e2 : (5 - (j : Int)) = (n : Int) := by omega
   unfold exprL
   rw [e2]
   exact h2
theorem expr_one (hlev : LevelC) {B : Nat} {T : List Tok} {E : Int} {tv : Value} {dp ns : Nat} {prim : Nat → Rs Ex} (hm : Mono prim) (hp : ReadsEx B T E tv dp ns 136 #[.pointer (some ⟨B, 0, none⟩)] prim) :
 ReadsEx B T E tv dp ns 55 #[.pointer (some ⟨B, 0, none⟩), .int .i64 1] (exprL T prim 5) := expr_calls hlev hm hp 5 1 rfl
theorem down_calls (B gb : Nat) (b : Int) (u : FrameMode) (w : World) (hg : w.cell? ⟨gb, 0, none⟩ = some (.pointer (some ⟨B, 0, none⟩))) (hc : w.cell? ⟨B, 4, none⟩ = some (.int .i64 b)) (hf : w.frozen? ⟨B, 4, none⟩ = false) :
 CallsD Tryz.prog 187 #[.pointer (some ⟨gb, 0, none⟩)] u w fun e u' w' => u' = u ∧ (e = .returned (.tuple #[]) ∧ w' = w.setCell ⟨B, 4, none⟩ (.int .i64 (IntKind.i64.wrap (b - 1)))) := by
 generalize hq : IntKind.i64.wrap (b - 1) = q
 go_enter_d Tryz.func187, Tryz.ntmps187
 go_wp2_with (fail)
 go_end0
 exact ⟨rfl, rfl⟩
structure PS (w W : World) (n3 B : Nat) (T : List Tok) (E : Int) (tv : Value) (dp ns : Nat) (t : Tok) (k : Nat) : Prop where
 rdr : Rdr W B T E tv k dp (ns + 1)
 aside : Aside1 B w W
 ptr : Blk W w.heap.size [.pointer (some ⟨B, 0, none⟩)] 87
 res : Blk W (w.heap.size + 1) zeroC 26
 tok : Blk W n3 [.int .i64 t.1, .int .i64 t.2.1, .string t.2.2] 153
 old : w.heap.size + 1 < n3
section
variable {w W W' : World} {n3 B : Nat} {T : List Tok} {E : Int} {tv : Value} {dp ns : Nat} {t : Tok} {k k' : Nat}
theorem PS.step (h : PS w W n3 B T E tv dp ns t k) (hB : B < w.heap.size) (ha : Aside1 B W W') (hr : Rdr W' B T E tv k' dp (ns + 1)) : PS w W' n3 B T E tv dp ns t k' :=
 ⟨hr, h.aside.trans ha, h.ptr.aside ha (by omega), h.res.aside ha (by omega), h.tok.aside ha (by have := h.old; omega), h.old⟩
theorem PS.below (h : PS w W n3 B T E tv dp ns t k) (hB : B < w.heap.size) (hb : Below W.heap.size W W') : PS w W' n3 B T E tv dp ns t k := h.step hB (aside_below hb) (h.rdr.below hb)
theorem PS.p0 (h : PS w W n3 B T E tv dp ns t k) : W.cell? ⟨w.heap.size, 0, none⟩ = some (.pointer (some ⟨B, 0, none⟩)) := h.ptr.cell 0
theorem PS.t0 (h : PS w W n3 B T E tv dp ns t k) : W.cell? ⟨n3, 0, none⟩ = some (.int .i64 t.1) := h.tok.cell 0
theorem PS.t1 (h : PS w W n3 B T E tv dp ns t k) : W.cell? ⟨n3, 1, none⟩ = some (.int .i64 t.2.1) := h.tok.cell 1
theorem PS.t2 (h : PS w W n3 B T E tv dp ns t k) : W.cell? ⟨n3, 2, none⟩ = some (.string t.2.2) := h.tok.cell 2
theorem Blk.new2 (w : World) (A cs : List Value) (ta t : TypeId) : Blk ((w.alloc (.cells A.toArray ta)).alloc (.cells cs.toArray t)) (w.heap.size + 1) cs t := by
 have := Blk.new (w.alloc (.cells A.toArray ta)) cs t
 have e : (w.alloc (.cells A.toArray ta)).heap.size = w.heap.size + 1 := by simp
 rw [e] at this
 exact this
theorem prim_ret {k0 dp0 ns0 : Nat} {tmps : Array Value} {x : Ex} {a b c d e f g : Value} (ht : tmps[2]? = some (.pointer (some ⟨w.heap.size + 1, 0, none⟩))) (h0 : Rdr w B T E tv k0 dp0 ns0) (hA : Aside1 B w W) (hr : Rdr W B T E tv k dp (ns + 1))
 (hP : Blk W w.heap.size [.pointer (some ⟨B, 0, none⟩)] 87) (hE : Blk W (w.heap.size + 1) [a, b, c, d, e, f, g] 26) (hx : ExIs (since (w.heap.size + 2) W) x (.agg #[a, b, c, d, e, f, g])) (hns : ns < 12) :
 Leaves Tryz.prog Tryz.f136 tmps (Does w B T E tv dp ns ExIs (.ok x k)) [{ target := .fn (.func 187) #[.pointer (some ⟨w.heap.size, 0, none⟩)], args := #[] }] .returning W := by
 have hB := h0.lt
 refine leaves_cons (f := 187) (args := #[.pointer (some ⟨w.heap.size, 0, none⟩)]) (by simp) (by simp [go_sem]) ?_
 refine (down_calls B w.heap.size ((ns + 1 : Nat) : Int) _ W (hP.cell 0) hr.c4 (hr.fz 4)).mono ?_
 rintro e u' w'' ⟨rfl, rfl, rfl⟩
 have hwr : IntKind.i64.wrap (((ns + 1 : Nat) : Int) - 1) = (ns : Int) := by
  rw [show (((ns + 1 : Nat) : Int) - 1) = (ns : Int) from by omega]
  exact IntWalk.i64_in _ ⟨by omega, by omega⟩
 rw [hwr]
 have hA9 := hA.trans (aside_set (B := B) (w := W) 4 (.int .i64 (ns : Int)))
 have hE9 : Blk (W.setCell ⟨B, 4, none⟩ (.int .i64 (ns : Int))) (w.heap.size + 1) [a, b, c, d, e, f, g] 26 := hE.other (by omega) _ _
 obtain ⟨q0, q1, q2, q3, q4, q5, q6⟩ := hE9.cells7
 have hD : Does w B T E tv dp ns ExIs (.ok x k) (.returned (.agg #[a, b, c, d, e, f, g])) (W.setCell ⟨B, 4, none⟩ (.int .i64 (ns : Int))) :=
  ⟨hA9, _, rfl, hr.setN ns, hx.stays ((since_set _ _ _ (by omega)).trans (since_mono _ (by omega)))⟩
 refine ⟨.agg #[a, b, c, d, e, f, g], ?_, hD⟩
 simp [results, Tryz.results136, go_sem, ht, q0, q1, q2, q3, q4, q5, q6]
theorem prim_bad {tmps : Array Value} {cd at_ : Int} (hB : B < w.heap.size) (hA : Aside1 B w W) (hl : Left W B E tv)
 (hP : W.cell? ⟨w.heap.size, 0, none⟩ = some (.pointer (some ⟨B, 0, none⟩))) :
 Leaves Tryz.prog Tryz.f136 tmps (Does w B T E tv dp ns ExIs (.bad cd at_)) [{ target := .fn (.func 187) #[.pointer (some ⟨w.heap.size, 0, none⟩)], args := #[] }] (.panicking [{ v := stopV cd at_, recovered := false }]) W := by
 obtain ⟨k1, a1, b1, hl⟩ := hl
 refine leaves_cons (f := 187) (args := #[.pointer (some ⟨w.heap.size, 0, none⟩)]) (by simp) (by simp [go_sem]) ?_
 refine (down_calls B w.heap.size b1 _ W hP (by simp [World.cell?, hl]) (by simp [World.frozen?, hl])).mono ?_
 rintro e u' w'' ⟨rfl, rfl, rfl⟩
 exact ⟨hA.trans (aside_set _ _), rfl, k1, a1, _, by simp [World.setCell, Array.getElem?_modify, hl]; rfl⟩
def PanicAs (D : List Deferred) (R : List PanicEntry → World → Prop) (Q : Exit → Act → World → Prop) : Exit → Act → World → Prop
 | .panic c, a, w => a.defers = D ∧ R c w
 | e, a, w => Q e a w
theorem wp_region_panicAs {P : Program} {id : Nat} {ops : Array Oper} {b : Bool} {Q : Exit → Act → World → Prop} {a : Act} {w : World} (D : List Deferred) (R : List PanicEntry → World → Prop)
 (hi : ∀ c a w, a.defers = D → R c w → Q (.panic c) a w) (h : (Code.region id ops b).wp P (PanicAs D R Q) a w) : (Code.region id ops b).wp P Q a w :=
 Code.wp_mono (fun e a w h => by
  cases e with
  | panic c => exact hi c a w h.1 h.2
  | _ => exact h) h
theorem exs_one {W : World} {x : Ex} {vl va : Value} {b m : Nat} {t : TypeId} (hx : ExIs (since m W) x (.agg #[.int .i64 x.kind, .int .i64 x.at_, .int .i64 x.num, .int .i64 x.ty, .string x.name, vl, va])) (hb : Blk W b (exC x vl va) t) (hm : m ≤ b) : Exs (since m W) [x] (.slice (some ⟨b, 0, none⟩) 1 1) := by
 obtain ⟨vl', va', e, h1, h2⟩ := hx
 obtain ⟨rfl, rfl⟩ : vl = vl' ∧ va = va' := by simp at e; exact e
 refine ⟨_, 1, rfl, Nat.le_refl _, by unfold maxLen; decide, .inr ⟨b, 0, rfl, fun i hi => ?_⟩⟩
 have e0 : i = 0 := by have : [x].length = 1 := rfl; have hi' : i < [x].length := hi; omega
 subst e0
 refine ⟨exC x vl va, exC_of h1 h2, rfl, fun j u hu => ?_⟩
 have hp : decide (b < m) = false := decide_eq_false (by omega)
 refine (hide_cell (fun b => decide (b < m)) W b _).trans ?_
 simp only [hp, Bool.false_eq_true, if_false]
 have := hb.cell j
 rw [hu] at this
 simpa using this
theorem exIs_leaf (W : World) (kind at_ n ty : Int) (name : Txt) : ExIs W (.mk kind at_ n ty name [] []) (.agg #[.int .i64 kind, .int .i64 at_, .int .i64 n, .int .i64 ty, .string name, .slice none 0 0, .slice none 0 0]) :=
 ⟨_, _, rfl, ⟨none, 0, rfl, Nat.le_refl _, by unfold maxLen; decide, .inl rfl⟩, ⟨none, 0, rfl, Nat.le_refl _, by unfold maxLen; decide, .inl rfl⟩⟩
theorem PS.ret (h : PS w W n3 B T E tv dp ns t k) (hns : ns < 12) {k0 dp0 ns0 : Nat} {tmps : Array Value} {x : Ex} {a b c d e f g : Value} (h0 : Rdr w B T E tv k0 dp0 ns0) (ht : tmps[2]? = some (.pointer (some ⟨w.heap.size + 1, 0, none⟩)))
 (hx : ExIs (since (w.heap.size + 2) W) x (.agg #[a, b, c, d, e, f, g])) :
 Leaves Tryz.prog Tryz.f136 tmps (Does w B T E tv dp ns ExIs (.ok x k)) [{ target := .fn (.func 187) #[.pointer (some ⟨w.heap.size, 0, none⟩)], args := #[] }] .returning (sev W (w.heap.size + 1) a b c d e f g) := by
 have hB := h0.lt
 have hA : Aside1 B w (sev W (w.heap.size + 1) a b c d e f g) := aside_sev h.aside (by omega)
 exact prim_ret ht h0 hA (h0.via hA (sev_block (by omega)) h.rdr) ((sev_block (by omega)).trans h.ptr) (Blk.sev h.res) (hx.stays (since_sev (by omega))) hns
theorem sev_keeps {a b c d e f g : Value} (h : PS w W n3 B T E tv dp ns t k) : (sev W (w.heap.size + 1) a b c d e f g).cell? ⟨w.heap.size, 0, none⟩ = some (.pointer (some ⟨B, 0, none⟩)) ∧ (sev W (w.heap.size + 1) a b c d e f g).cell? ⟨n3, 1, none⟩ = some (.int .i64 t.2.1) ∧ (sev W (w.heap.size + 1) a b c d e f g).cell? ⟨n3, 2, none⟩ = some (.string t.2.2) := by
 have h1 : Blk (sev W (w.heap.size + 1) a b c d e f g) w.heap.size [.pointer (some ⟨B, 0, none⟩)] 87 := (sev_block (by omega)).trans h.ptr
 have h2 : Blk (sev W (w.heap.size + 1) a b c d e f g) n3 [.int .i64 t.1, .int .i64 t.2.1, .string t.2.2] 153 := (sev_block (by have := h.old; omega)).trans h.tok
 exact ⟨h1.cell 0, h2.cell 1, h2.cell 2⟩
theorem PS.bad (h : PS w W n3 B T E tv dp ns t k) (hB : B < w.heap.size) {tmps : Array Value} {cd at_ : Int} (ha : Aside1 B W W') (hl : Left W' B E tv) :
 Leaves Tryz.prog Tryz.f136 tmps (Does w B T E tv dp ns ExIs (.bad cd at_)) [{ target := .fn (.func 187) #[.pointer (some ⟨w.heap.size, 0, none⟩)], args := #[] }] (.panicking [{ v := stopV cd at_, recovered := false }]) W' :=
 prim_bad hB (h.aside.trans ha) hl ((h.ptr.aside ha (by omega)).cell 0)
end
end
end Go.Proofs.YtmepcmnpmhhiiaaGreatDoor
