/- Texts of the proof that ParseExpr holds, part 14; no conditions. -/
import Derived.Test.YtmepcmnpmhhiiaaGreatDoorPE13
import Derived.Test.YtmepcmnpmhhiiaaGreatDoorPE10
import Derived.Lib.AtoiTie
import Derived.Lib.ParseIntBTie
import Derived.Defers
namespace Go.Proofs.YtmepcmnpmhhiiaaGreatDoor
set_option linter.unusedVariables false
set_option linter.unusedSimpArgs false
set_option maxHeartbeats 8000000
set_option maxRecDepth 100000
section
open Go.RowKit Go.Maps
def PintC (T : List Tok) : Prop := ∀ k, (tkNext T k).1 = 2 → ∀ W, Calls Tryz.prog 198 #[.string (tkNext T k).2.2, .int .i64 10, .int .i64 64] W fun e w' => e = .returned (.tuple #[.int .i64 (numT (tkNext T k).2.2), .nilIface]) ∧ Below W.heap.size W w'
theorem pint_ok (s : ByteArray) (hne : s.size ≠ 0) (hmax : s.size ≤ 18) (v : Int) (h : Lib.atoi s.data.toList = some v) (w : World) : Calls Tryz.prog 198 #[.string s, .int .i64 10, .int .i64 64] w fun e w' => e = .returned (.tuple #[.int .i64 v, .nilIface]) ∧ Below w.heap.size w w' := by
 have hI := Tryz.internal_strconv_ParseInt_10_at64 s hne (by omega) w
 have hl : s.data.toList.length ≤ 18 := by rw [Array.length_toList]; exact hmax
 rw [Lib.parseIntB_64, Lib.atoiAll_short _ hl, h] at hI
 have HI : Hid (Calls Tryz.prog 229 #[.string s, .int .i64 10, .int .i64 64] w fun e w' => e = .returned (.tuple #[.int .i64 v, .nilIface]) ∧ Below w.heap.size w w') := hI.mono fun e w' ⟨h1, h2⟩ => ⟨h1, by
  rcases h2 with rfl | ⟨t, rfl⟩
  · exact Below.refl _ _
  · exact Lib.bytesWorld_below _ _ _⟩
 clear hI h hl hne hmax
 go_enter Tryz.func198, Tryz.ntmps198
 go_wp2_with (fail)
 refine HI.out.mono ?_
 rintro e w1 ⟨rfl, hb⟩
 have HB := Hd hb
 clear hb
 go_wp2_with (fail)
 go_ret2
 exact ⟨rfl, HB.out⟩
theorem pint_calls {s : Txt} {T : List Tok} (hT : ∀ t ∈ T, Stands s t) : PintC T := by
 intro k hk W
 have hlt : k < T.length := kind_lt (by omega)
 have ht := hT _ (List.getElem_mem hlt)
 rw [← tkNext_lt hlt] at ht
 obtain ⟨p, h1, h2, h3, h4, h5⟩ := ht
 rw [hk] at h3
 obtain ⟨h6, h7⟩ := num_atoi (rest_cons h1) h3
 refine pint_ok _ (fun e0 => ?_) (by omega) _ h7 W
 have e1 : (tkNext T k).2.2.data.toList = [] := by
  have : (tkNext T k).2.2.data.toList.length = 0 := by rw [Array.length_toList]; exact e0
  exact List.length_eq_zero_iff.1 this
 rw [e1] at h7
 cases h7
theorem tdown_calls (B gb : Nat) (b : Int) (u : FrameMode) (w : World) (hg : w.cell? ⟨gb, 0, none⟩ = some (.pointer (some ⟨B, 0, none⟩))) (hc : w.cell? ⟨B, 6, none⟩ = some (.int .i64 b)) (hf : w.frozen? ⟨B, 6, none⟩ = false) :
 CallsD Tryz.prog 197 #[.pointer (some ⟨gb, 0, none⟩)] u w fun e u' w' => u' = u ∧ (e = .returned (.tuple #[]) ∧ w' = w.setCell ⟨B, 6, none⟩ (.int .i64 (IntKind.i64.wrap (b - 1)))) := by
 generalize hq : IntKind.i64.wrap (b - 1) = q
 go_enter_d Tryz.func197, Tryz.ntmps197
 go_wp2_with (fail)
 go_end0
 exact ⟨rfl, rfl⟩
theorem Goes.start {α : Type} {p A : Nat → Rs α} {k : Nat} (h : p k = A (k + 1)) : Goes (.go k) p (.go (k + 1)) A := ⟨by simp only [TS.run, h], fun i y k' e1 e2 => by
 cases e1
 exact ⟨k + 1, rfl, by rw [← h]; exact e2⟩⟩
structure TP (w W : World) (n3 B : Nat) (T : List Tok) (E : Int) (tv : Value) (bl al : Nat) (t : Tok) (s : TS) : Prop where
 rdr : Txr W B T E tv s bl (al + 1)
 aside : Aside1 B w W
 ptr : Blk W w.heap.size [.pointer (some ⟨B, 0, none⟩)] 104
 res : Blk W (w.heap.size + 1) zeroC 26
 tok : Blk W n3 [.int .i64 t.1, .int .i64 t.2.1, .string t.2.2] 153
 old : w.heap.size + 1 < n3
section
variable {w W W' : World} {n3 B : Nat} {T : List Tok} {E : Int} {tv : Value} {bl al : Nat} {t : Tok} {s s' s0 : TS}
theorem TP.step (h : TP w W n3 B T E tv bl al t s) (hB : B < w.heap.size) (ha : Aside1 B W W') (hr : Txr W' B T E tv s' bl (al + 1)) : TP w W' n3 B T E tv bl al t s' :=
 ⟨hr, h.aside.trans ha, h.ptr.aside ha (by omega), h.res.aside ha (by omega), h.tok.aside ha (by have := h.old; omega), h.old⟩
theorem TP.below (h : TP w W n3 B T E tv bl al t s) (hB : B < w.heap.size) (hb : Below W.heap.size W W') : TP w W' n3 B T E tv bl al t s := h.step hB (aside_below hb) (h.rdr.below hb)
theorem TP.p0 (h : TP w W n3 B T E tv bl al t s) : W.cell? ⟨w.heap.size, 0, none⟩ = some (.pointer (some ⟨B, 0, none⟩)) := h.ptr.cell 0
theorem TP.t0 (h : TP w W n3 B T E tv bl al t s) : W.cell? ⟨n3, 0, none⟩ = some (.int .i64 t.1) := h.tok.cell 0
theorem TP.t1 (h : TP w W n3 B T E tv bl al t s) : W.cell? ⟨n3, 1, none⟩ = some (.int .i64 t.2.1) := h.tok.cell 1
theorem TP.t2 (h : TP w W n3 B T E tv bl al t s) : W.cell? ⟨n3, 2, none⟩ = some (.string t.2.2) := h.tok.cell 2
theorem one_ret {p : Nat → Rs Ex} {tmps : Array Value} {x : Ex} {a b c d e f g : Value} (ht : tmps[2]? = some (.pointer (some ⟨w.heap.size + 1, 0, none⟩))) (hB : B < w.heap.size) (hA : Aside1 B w W) (hr : Txr W B T E tv s bl (al + 1))
 (hP : Blk W w.heap.size [.pointer (some ⟨B, 0, none⟩)] 104) (hE : Blk W (w.heap.size + 1) [a, b, c, d, e, f, g] 26) (hx : ExIs (since (w.heap.size + 2) W) x (.agg #[a, b, c, d, e, f, g])) (hal : al < 12) (hG : Goes s0 p s fun k => .ok x k) :
 Leaves Tryz.prog Tryz.f146 tmps (TDoes w B T E tv s0 bl al ExIs p) [{ target := .fn (.func 197) #[.pointer (some ⟨w.heap.size, 0, none⟩)], args := #[] }] .returning W := by
 refine leaves_cons (f := 197) (args := #[.pointer (some ⟨w.heap.size, 0, none⟩)]) (by simp) (by simp [go_sem]) ?_
 refine (tdown_calls B w.heap.size ((al + 1 : Nat) : Int) _ W (hP.cell 0) hr.c6 (hr.fz 6)).mono ?_
 rintro e u' w'' ⟨rfl, rfl, rfl⟩
 have hwr : IntKind.i64.wrap (((al + 1 : Nat) : Int) - 1) = (al : Int) := by
  rw [show (((al + 1 : Nat) : Int) - 1) = (al : Int) from by omega]
  exact IntWalk.i64_in _ ⟨by omega, by omega⟩
 rw [hwr]
 have hA9 := hA.trans (aside_set (B := B) (w := W) 6 (.int .i64 (al : Int)))
 have hE9 : Blk (W.setCell ⟨B, 6, none⟩ (.int .i64 (al : Int))) (w.heap.size + 1) [a, b, c, d, e, f, g] 26 := hE.other (by omega) _ _
 obtain ⟨q0, q1, q2, q3, q4, q5, q6⟩ := hE9.cells7
 have hD : TDoes w B T E tv s0 bl al ExIs p (.returned (.agg #[a, b, c, d, e, f, g])) (W.setCell ⟨B, 6, none⟩ (.int .i64 (al : Int))) :=
  ⟨hA9, _, x, rfl, by rw [hG.fin.1]; exact hr.setAl al, hx.stays ((since_set _ _ _ (by omega)).trans (since_mono _ (by omega))), hG.fin.2⟩
 refine ⟨.agg #[a, b, c, d, e, f, g], ?_, hD⟩
 simp [results, Tryz.results146, go_sem, ht, q0, q1, q2, q3, q4, q5, q6]
theorem TP.ret (h : TP w W n3 B T E tv bl al t s) (hal : al < 12) (hB : B < w.heap.size) (htk : Toks (mask B w) T tv) {p : Nat → Rs Ex} {tmps : Array Value} {x : Ex} {a b c d e f g : Value} (ht : tmps[2]? = some (.pointer (some ⟨w.heap.size + 1, 0, none⟩)))
 (hx : ExIs (since (w.heap.size + 2) W) x (.agg #[a, b, c, d, e, f, g])) (hG : Goes s0 p s fun k => .ok x k) :
 Leaves Tryz.prog Tryz.f146 tmps (TDoes w B T E tv s0 bl al ExIs p) [{ target := .fn (.func 197) #[.pointer (some ⟨w.heap.size, 0, none⟩)], args := #[] }] .returning (sev W (w.heap.size + 1) a b c d e f g) := by
 have hA : Aside1 B w (sev W (w.heap.size + 1) a b c d e f g) := aside_sev h.aside (by omega)
 exact one_ret ht hB hA ⟨(sev_block (by omega)).trans h.rdr.blk, htk.stays hA.keeps, h.rdr.fine⟩ ((sev_block (by omega)).trans h.ptr) (Blk.sev h.res) (hx.stays (since_sev (by omega))) hal hG
theorem tsev_keeps {a b c d e f g : Value} (h : TP w W n3 B T E tv bl al t s) : (sev W (w.heap.size + 1) a b c d e f g).cell? ⟨w.heap.size, 0, none⟩ = some (.pointer (some ⟨B, 0, none⟩)) ∧ (sev W (w.heap.size + 1) a b c d e f g).cell? ⟨n3, 1, none⟩ = some (.int .i64 t.2.1) ∧ (sev W (w.heap.size + 1) a b c d e f g).cell? ⟨n3, 2, none⟩ = some (.string t.2.2) := by
 have h1 : Blk (sev W (w.heap.size + 1) a b c d e f g) w.heap.size [.pointer (some ⟨B, 0, none⟩)] 104 := (sev_block (by omega)).trans h.ptr
 have h2 : Blk (sev W (w.heap.size + 1) a b c d e f g) n3 [.int .i64 t.1, .int .i64 t.2.1, .string t.2.2] 153 := (sev_block (by have := h.old; omega)).trans h.tok
 exact ⟨h1.cell 0, h2.cell 1, h2.cell 2⟩
end
end
end Go.Proofs.YtmepcmnpmhhiiaaGreatDoor
