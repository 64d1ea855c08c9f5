/- Texts of the proof that ParseExpr holds, part 11; no conditions. -/
import Derived.Test.YtmepcmnpmhhiiaaGreatDoorPE10
import Derived.Test.YtmepcmnpmhhiiaaGreatDoorPE08
import Derived.Test.YtmepcmnpmhhiiaaGreatDoorPE03
import Derived.Deep.RegionHeld3
import Derived.Deep.RegionLawGrows
namespace Go.Proofs.YtmepcmnpmhhiiaaGreatDoor
set_option linter.unusedVariables false
set_option linter.unusedSimpArgs false
set_option maxHeartbeats 8000000
set_option maxRecDepth 100000
section
open Go.RowKit
theorem Rows.split {α : Type} {E : Enc α} {k : Nat} {w : World} : ∀ {l m : List α} {vs : List Value}, Rows E k w (l ++ m) vs → ∃ v1 v2, vs = v1 ++ v2 ∧ Rows E k w l v1 ∧ Rows E k w m v2
 | [], m, vs, h => ⟨[], vs, rfl, rfl, h⟩
 | x :: l, m, vs, h => by
   obtain ⟨us, us', rfl, h1, h2, h3⟩ := h
   obtain ⟨v1, v2, rfl, g1, g2⟩ := Rows.split (l := l) h3
   exact ⟨us ++ v1, v2, by simp, ⟨us, v1, rfl, h1, h2, g1⟩, g2⟩
def tkC (s : Tok) : List Value := [.int .i64 s.1, .int .i64 s.2.1, .string s.2.2]
def tksC (l : List Tok) : List Value := l.flatMap tkC
theorem tksC_len (l : List Tok) : (tksC l).length = l.length * 3 := by
 induction l with
 | nil => rfl
 | cons s l ih => simp only [tksC, List.flatMap_cons, List.length_append, List.length_cons] at ih ⊢; rw [ih]; simp [tkC]; omega
theorem tksC_snoc (l : List Tok) (s : Tok) : tksC (l ++ [s]) = tksC l ++ tkC s := by simp [tksC]
def prv (n0 b3 b4 : Nat) (lv sv : Value) : Nat → Bool := fun b => decide (b < n0) || (b == b3) || (b == b4) || (lv.ownBlock == some b) || (sv.ownBlock == some b)
theorem prv_no {n0 b3 b4 : Nat} {lv sv : Value} {b : Nat} : prv n0 b3 b4 lv sv b = false ↔ n0 ≤ b ∧ b ≠ b3 ∧ b ≠ b4 ∧ lv.ownBlock ≠ some b ∧ sv.ownBlock ≠ some b := by
 simp [prv, and_assoc]
structure EI (w wo : World) (B : Nat) (T : List Tok) (E : Int) (tv : Value) (bl al n0 b3 b4 : Nat) (lv sv : Value) (xs : List Ex) (ss : List Tok) (t : TS) : Prop where
 rdr : Txr wo B T E tv t bl al
 aside : Aside1 B w wo
 lown : ∃ vals, wo.ownsRow n0 26 7 lv xs.length vals ∧ Rows exE 7 (hide (prv n0 b3 b4 lv sv) wo) xs vals
 sown : wo.ownsRow n0 153 3 sv ss.length (tksC ss)
 c3 : Blk wo b3 [lv] 24
 c4 : Blk wo b4 [sv] 79
 far : lv.ownBlock ≠ some b3 ∧ lv.ownBlock ≠ some b4 ∧ sv.ownBlock ≠ some b3 ∧ sv.ownBlock ≠ some b4
 apart : ∀ g, lv.ownBlock = some g → sv.ownBlock ≠ some g
 num : B < n0 ∧ w.heap.size ≤ n0 ∧ n0 ≤ b3 ∧ n0 ≤ b4 ∧ b3 ≠ b4
section
variable {w wo wn : World} {B : Nat} {T : List Tok} {E : Int} {tv : Value} {bl al n0 b3 b4 : Nat} {lv sv : Value} {xs : List Ex} {ss : List Tok} {t t' : TS}
theorem EI.call (h : EI w wo B T E tv bl al n0 b3 b4 lv sv xs ss t) (ha : Aside1 B wo wn) (hr : Txr wn B T E tv t' bl al) : EI w wn B T E tv bl al n0 b3 b4 lv sv xs ss t' := by
 obtain ⟨vals, h1, h2⟩ := h.lown
 have hB := h.num.1
 refine ⟨hr, h.aside.trans ha, ⟨vals, own_aside h1 hB ha, Rows.stays exE_stays (keeps_hide ha.size fun b hb hp => ⟨hp, ha.block b hb (fun e => ?_)⟩) h2⟩, own_aside h.sown hB ha, h.c3.aside ha (by have := h.num; omega), h.c4.aside ha (by have := h.num; omega), h.far, h.apart, h.num⟩
 have := (prv_no.1 hp).1
 simp at e
 omega
theorem EI.below (h : EI w wo B T E tv bl al n0 b3 b4 lv sv xs ss t) (hb : Below wo.heap.size wo wn) : EI w wn B T E tv bl al n0 b3 b4 lv sv xs ss t := h.call (aside_below hb) (h.rdr.below hb)
theorem own_form {w : World} {base : Nat} {e : TypeId} {size : Nat} {v : Value} {n : Nat} {xs : List Value} (h : w.ownsRow base e size v n xs) (hn : 0 < n) : ∃ g cap, v = .slice (some ⟨g, 0, none⟩) n cap ∧ base ≤ g ∧ g < w.heap.size ∧ n ≤ cap ∧ cap ≤ 9223372036854775807 ∧ ∀ j u, xs[j]? = some u → w.cell? ⟨g, j, none⟩ = some u := by
 obtain ⟨hl, h⟩ := h
 rcases h with ⟨rfl, h0⟩ | ⟨g, cap, cur, rfl, hb, hh, h1, h2, h3, h4⟩
 · omega
 · refine ⟨g, cap, rfl, hb, (Array.getElem?_eq_some_iff.1 hh).1, h1, by unfold maxLen at h2; omega, fun j u hu => ?_⟩
   rw [← h4, List.getElem?_take] at hu
   split at hu
   · simpa [World.cell?, hh] using hu
   · cases hu
theorem own_less {w : World} {base : Nat} {e : TypeId} {size g cap n m : Nat} {xs : List Value} (h : w.ownsRow base e size (.slice (some ⟨g, 0, none⟩) n cap) n xs) (hm : m ≤ n) : w.ownsRow base e size (.slice (some ⟨g, 0, none⟩) m cap) m (xs.take (m * size)) := by
 obtain ⟨hl, h⟩ := h
 have hms : m * size ≤ n * size := Nat.mul_le_mul_right _ hm
 refine ⟨by rw [List.length_take]; omega, ?_⟩
 rcases h with ⟨e0, h0⟩ | ⟨g', cap', cur, e0, hb, hh, h1, h2, h3, h4⟩
 · cases e0
 · cases e0
   refine .inr ⟨g, cap, cur, rfl, hb, hh, by omega, h2, h3, ?_⟩
   rw [← h4, List.take_take]
   congr 1
   omega
theorem own_old {w : World} {base base' : Nat} {e : TypeId} {size n : Nat} {v : Value} {xs : List Value} (h : w.ownsRow base e size v n xs) (hb : base' ≤ base) : w.ownsRow base' e size v n xs := by
 refine ⟨h.1, ?_⟩
 rcases h.2 with h | ⟨g, cap, cur, e0, h1, h2⟩
 · exact .inl h
 · exact .inr ⟨g, cap, cur, e0, Nat.le_trans hb h1, h2⟩
theorem own_set {w : World} {base : Nat} {e : TypeId} {size g cap n : Nat} {xs : List Value} (h : w.ownsRow base e size (.slice (some ⟨g, 0, none⟩) n cap) n xs) (j : Nat) (u : Value) (hj : j < n * size) : (w.setCell ⟨g, j, none⟩ u).ownsRow base e size (.slice (some ⟨g, 0, none⟩) n cap) n (xs.set j u) := by
 obtain ⟨hl, h⟩ := h
 refine ⟨by rw [List.length_set]; exact hl, ?_⟩
 rcases h with ⟨e0, h0⟩ | ⟨g', cap', cur, e0, hb, hh, h1, h2, h3, h4⟩
 · cases e0
 · cases e0
   refine .inr ⟨g, cap, cur.setIfInBounds j u, rfl, hb, ?_, h1, h2, by simpa using h3, ?_⟩
   · simp [World.setCell, Array.getElem?_modify, hh]
   · rw [← h4, Array.toList_setIfInBounds, List.take_set]
theorem rows_to {p q : Nat → Bool} (hs : wo.heap.size ≤ wn.heap.size) (h : ∀ b, b < wo.heap.size → p b = false → q b = false ∧ wn.heap[b]? = wo.heap[b]?) {l : List Ex} {vs : List Value} (hr : Rows exE 7 (hide p wo) l vs) : Rows exE 7 (hide q wn) l vs := Rows.stays exE_stays (keeps_hide hs h) hr
theorem exs_two {W : World} {p : Nat → Bool} {x y : Ex} {ux uy : List Value} {b : Nat} {t : TypeId} (hx : exE (hide p W) x ux) (hy : exE (hide p W) y uy) (lx : ux.length = 7) (ly : uy.length = 7) (hb : Blk W b (ux ++ uy) t) (hp : p b = false) : Exs (hide p W) [x, y] (.slice (some ⟨b, 0, none⟩) 2 2) := by
 have hc : ∀ j u, (ux ++ uy)[j]? = some u → (hide p W).cell? ⟨b, j, none⟩ = some u := fun j u hu => by
  rw [hide_cell, hp]
  simp only [Bool.false_eq_true, if_false]
  rw [hb.cell j]
  exact hu
 refine ⟨_, 2, rfl, Nat.le_refl _, by unfold maxLen; decide, .inr ⟨b, 0, rfl, fun i hi => ?_⟩⟩
 match i, hi with
 | 0, _ =>
   refine ⟨ux, hx, lx, fun j u hu => ?_⟩
   have hj : j < ux.length := (List.getElem?_eq_some_iff.1 hu).1
   have := hc j u (by rw [List.getElem?_append_left hj]; exact hu)
   simpa using this
 | 1, _ =>
   refine ⟨uy, hy, ly, fun j u hu => ?_⟩
   have := hc (7 + j) u (by rw [List.getElem?_append_right (by omega), lx, Nat.add_sub_cancel_left]; exact hu)
   simpa using this
end
theorem own_move {w w' : World} {base : Nat} {e : TypeId} {size : Nat} {v : Value} {n : Nat} {xs : List Value} (h : w.ownsRow base e size v n xs) (hb : ∀ g, v.ownBlock = some g → w'.heap[g]? = w.heap[g]?) : w'.ownsRow base e size v n xs := by
 refine ⟨h.1, ?_⟩
 rcases h.2 with h2 | ⟨g, cap, cur, rfl, h1, h2, h3⟩
 · exact .inl h2
 · exact .inr ⟨g, cap, cur, rfl, h1, by rw [hb g rfl]; exact h2, h3⟩
theorem own_fz {w : World} {base : Nat} {e : TypeId} {size g cap n : Nat} {xs : List Value} (h : w.ownsRow base e size (.slice (some ⟨g, 0, none⟩) n cap) n xs) (o : Nat) : w.frozen? ⟨g, o, none⟩ = false := by
 rcases h.2 with ⟨e0, _⟩ | ⟨g', cap', cur, e0, _, hh, _⟩
 · cases e0
 · cases e0
   simp [World.frozen?, hh]
theorem below_grown0 {w w' : World} (h : w.grownBy w' none) : Below w.heap.size w w' := ⟨h.os, h.tape, h.output, h.size, fun i hi => h.block i hi (by simp)⟩
def putE (s : Tok) (y x : Ex) : Ex := .mk 3 s.2.1 0 0 s.2.2 [] [y, x]
theorem put_calls {w wo : World} {B : Nat} {T : List Tok} {E : Int} {tv : Value} {bl al n0 b3 b4 : Nat} {lv sv : Value} {xs : List Ex} {y x : Ex} {ss : List Tok} {s : Tok} {t : TS} (htk : Toks (mask B w) T tv) (hx1000 : xs.length ≤ 1000000)
 (h : EI w wo B T E tv bl al n0 b3 b4 lv sv (xs ++ [y, x]) (ss ++ [s]) t) :
 Calls Tryz.prog 147 #[.pointer (some ⟨b3, 0, none⟩), .pointer (some ⟨b4, 0, none⟩)] wo fun e w' => e = .returned (.tuple #[]) ∧ Aside1 B w w' ∧ (∀ b, b < wo.heap.size → b ≠ b3 → b ≠ b4 → w'.heap[b]? = wo.heap[b]?) ∧ ∃ lv' sv', EI w w' B T E tv bl al n0 b3 b4 lv' sv' (xs ++ [putE s y x]) ss t := by
 obtain ⟨t0, hi, hz0, hz1, hz2⟩ := info_parts Tryz.info_exprP
 have HTK := Hd htk
 have H := Hd h
 obtain ⟨hB0, hw0, hn3, hn4, hn34⟩ := h.num
 obtain ⟨vals, hlo, hrows⟩ := h.lown
 have hso := h.sown
 obtain ⟨v1, v2, rfl, hr1, hr2⟩ := hrows.split
 obtain ⟨uy, v3, rfl, hy, ly, hr3⟩ := hr2
 obtain ⟨ux, v4, rfl, hxx, lx, hr4⟩ := hr3
 have hr4 : v4 = [] := hr4
 subst hr4
 have l1 : v1.length = xs.length * 7 := hr1.length
 obtain ⟨gl, cl, rfl, hgl0, hgl1, hcl1, hcl2, hcell⟩ := own_form hlo (by simp)
 obtain ⟨gs, cs, rfl, hgs0, hgs1, hcs1, hcs2, hscell⟩ := own_form hso (by simp)
 obtain ⟨vly, vay, ey, hly, hay⟩ := exE_out hy
 obtain ⟨ply, cly, rfl, _⟩ := hly
 obtain ⟨pay, cay, rfl, _⟩ := hay
 obtain ⟨vlx, vax, ex, hlx, hax⟩ := exE_out hxx
 obtain ⟨plx, clx, rfl, _⟩ := hlx
 obtain ⟨pax, cax, rfl, _⟩ := hax
 have HY := Hd hy
 have HX := Hd hxx
 have HEY := Hd ey
 have HEX := Hd ex
 have hl2 : (xs ++ [y, x]).length = xs.length + 2 := by simp
 have hs1 : (ss ++ [s]).length = ss.length + 1 := by simp
 rw [hl2] at hcl1 hlo
 rw [hs1] at hcs1 hso
 generalize hnl : xs.length = n at *
 generalize hns : ss.length = m at *
 have hcy : ∀ j u, uy[j]? = some u → wo.cell? ⟨gl, n * 7 + j, none⟩ = some u := fun j u hu => hcell _ _ (by rw [List.getElem?_append_right (by omega), List.getElem?_append_left (by have := (List.getElem?_eq_some_iff.1 hu).1; omega)]; rw [← hu]; congr 1; omega)
 have hcx : ∀ j u, ux[j]? = some u → wo.cell? ⟨gl, (n + 1) * 7 + j, none⟩ = some u := fun j u hu => hcell _ _ (by rw [List.getElem?_append_right (by omega), List.getElem?_append_right (by omega), List.getElem?_append_left (by have := (List.getElem?_eq_some_iff.1 hu).1; omega)]; rw [← hu]; congr 1; omega)
 have hct : ∀ j u, (tkC s)[j]? = some u → wo.cell? ⟨gs, m * 3 + j, none⟩ = some u := fun j u hu => hscell _ _ (by rw [tksC_snoc, List.getElem?_append_right (by rw [tksC_len]; omega), tksC_len]; rw [← hu]; congr 1; omega)
 subst ey ex
 obtain ⟨W1, eW1⟩ : ∃ W1, wo.alloc (.cells #[.int .i64 s.1, .int .i64 s.2.1, .string s.2.2] 153) = W1 := ⟨_, rfl⟩
 have hb1 : Below wo.heap.size wo W1 := by rw [← eW1]; exact (Below.refl _ _).alloc (Nat.le_refl _) _
 have hT1 : Blk W1 wo.heap.size [.int .i64 s.1, .int .i64 s.2.1, .string s.2.2] 153 := by rw [← eW1]; exact Blk.new _ _ _
 obtain ⟨W2, eW2⟩ : ∃ W2, W1.setCell ⟨b4, 0, none⟩ (.slice (some ⟨gs, 0, none⟩) m cs) = W2 := ⟨_, rfl⟩
 have c30 := h.c3.cell 0
 have c40 := h.c4.cell 0
 have c41 := (h.c4.below hb1).cell 0
 have f41 := (h.c4.below hb1).fz 0
 simp only [List.getElem?_cons_zero] at c30 c40 c41
 rw [hl2] at c30
 rw [hs1] at c40 c41
 have d0 : wo.cell? ⟨gs, m * 3, none⟩ = some (.int .i64 s.1) := hct 0 _ rfl
 have d1 : wo.cell? ⟨gs, m * 3 + 1, none⟩ = some (.int .i64 s.2.1) := hct 1 _ rfl
 have d2 : wo.cell? ⟨gs, m * 3 + 2, none⟩ = some (.string s.2.2) := hct 2 _ rfl
 have hm0 : (0 : Int) ≤ (m : Int) := by omega
 have hmc : (m : Int) ≤ (cs : Int) := by omega
 have hmc2 : m ≤ cs := by omega
 clear h
 go_enter Tryz.func147, Tryz.ntmps147
 go_upto_region 3 with fail
 clear d0 d1 d2 c40 c41 f41 hm0 hmc eW1
 have hs2 : Aside1 b4 W1 W2 := by rw [← eW2]; exact aside_set _ _
 have hT2 : Blk W2 wo.heap.size [.int .i64 s.1, .int .i64 s.2.1, .string s.2.2] 153 := hT1.aside hs2 (by have := H.out.c4.lt; omega)
 obtain ⟨W3, eW3⟩ : ∃ W3, W2.drew = W3 := ⟨_, rfl⟩
 have hb3 : Below W2.heap.size W2 W3 := by rw [← eW3]; exact (Below.refl _ _).drew
 have hone : ∀ b, b < wo.heap.size → b ≠ b4 → W3.heap[b]? = wo.heap[b]? := fun b hb hne => by
  rw [hb3.block b (by have h1 := hb1.size; have h2 := hs2.size; omega), hs2.block b (by have := hb1.size; omega) (fun e => hne (by simpa using e)), hb1.block b hb]
 have hsz3 : wo.heap.size + 1 ≤ W3.heap.size := by have h1 := hb3.size; have h2 := hs2.size; have h3 := hT1.lt; omega
 have hcell3 : ∀ b o u, b ≠ b4 → wo.cell? ⟨b, o, none⟩ = some u → W3.cell? ⟨b, o, none⟩ = some u := fun b o u hne hu => by
  rw [World.cell?_of_block (a := ⟨b, o, none⟩) (hone b (cell_lt hu) hne)]
  exact hu
 have hgl4 : gl ≠ b4 := fun e => H.out.far.2.1 (by rw [e]; rfl)
 have hgl3 : gl ≠ b3 := fun e => H.out.far.1 (by rw [e]; rfl)
 have hT3 : wo.heap.size ≠ b3 := by have := H.out.c3.lt; omega
 have y0 : W3.cell? ⟨gl, n * 7, none⟩ = some (.int .i64 y.kind) := hcell3 _ _ _ hgl4 (hcy 0 _ rfl)
 have y1 : W3.cell? ⟨gl, n * 7 + 1, none⟩ = some (.int .i64 y.at_) := hcell3 _ _ _ hgl4 (hcy 1 _ rfl)
 have y2 : W3.cell? ⟨gl, n * 7 + 2, none⟩ = some (.int .i64 y.num) := hcell3 _ _ _ hgl4 (hcy 2 _ rfl)
 have y3 : W3.cell? ⟨gl, n * 7 + 3, none⟩ = some (.int .i64 y.ty) := hcell3 _ _ _ hgl4 (hcy 3 _ rfl)
 have y4 : W3.cell? ⟨gl, n * 7 + 4, none⟩ = some (.string y.name) := hcell3 _ _ _ hgl4 (hcy 4 _ rfl)
 have y5 : W3.cell? ⟨gl, n * 7 + 5, none⟩ = some (.slice ply y.lab.length cly) := hcell3 _ _ _ hgl4 (hcy 5 _ rfl)
 have y6 : W3.cell? ⟨gl, n * 7 + 6, none⟩ = some (.slice pay y.kids.length cay) := hcell3 _ _ _ hgl4 (hcy 6 _ rfl)
 have x0 : W3.cell? ⟨gl, (n + 1) * 7, none⟩ = some (.int .i64 x.kind) := hcell3 _ _ _ hgl4 (hcx 0 _ rfl)
 have x1 : W3.cell? ⟨gl, (n + 1) * 7 + 1, none⟩ = some (.int .i64 x.at_) := hcell3 _ _ _ hgl4 (hcx 1 _ rfl)
 have x2 : W3.cell? ⟨gl, (n + 1) * 7 + 2, none⟩ = some (.int .i64 x.num) := hcell3 _ _ _ hgl4 (hcx 2 _ rfl)
 have x3 : W3.cell? ⟨gl, (n + 1) * 7 + 3, none⟩ = some (.int .i64 x.ty) := hcell3 _ _ _ hgl4 (hcx 3 _ rfl)
 have x4 : W3.cell? ⟨gl, (n + 1) * 7 + 4, none⟩ = some (.string x.name) := hcell3 _ _ _ hgl4 (hcx 4 _ rfl)
 have x5 : W3.cell? ⟨gl, (n + 1) * 7 + 5, none⟩ = some (.slice plx x.lab.length clx) := hcell3 _ _ _ hgl4 (hcx 5 _ rfl)
 have x6 : W3.cell? ⟨gl, (n + 1) * 7 + 6, none⟩ = some (.slice pax x.kids.length cax) := hcell3 _ _ _ hgl4 (hcx 6 _ rfl)
 have q0 := (hT2.below hb3).cell 0
 have q1 := (hT2.below hb3).cell 1
 have q2 := (hT2.below hb3).cell 2
 simp only [List.getElem?_cons_zero, List.getElem?_cons_succ] at q0 q1 q2
 have k0 := hcell3 _ _ _ hn34 c30
 have hn0 : (0 : Int) ≤ (n : Int) := by omega
 have hnc : (n : Int) ≤ (cl : Int) := by omega
 have hnc2 : n ≤ cl := by omega
 have w1 : IntKind.i64.wrap ((n : Int) + 2 - 2) = (n : Int) := by rw [IntKind.wrap_i64]; omega
 have w2 : IntKind.i64.wrap ((n : Int) + 2 - 1) = (n : Int) + 1 := by rw [IntKind.wrap_i64]; omega
 have w3 : IntKind.i64.wrap (n : Int) = (n : Int) := by rw [IntKind.wrap_i64]; omega
 have w4 : IntKind.i64.wrap ((n : Int) + 1) = (n : Int) + 1 := by rw [IntKind.wrap_i64]; omega
 have w5 : ((n : Int) + 1).toNat = n + 1 := by omega
 have hn1 : (0 : Int) ≤ (n : Int) + 1 := by omega
 have hn2 : (n : Int) < (n : Int) + 2 := by omega
 have hn5 : (n : Int) + 1 < (n : Int) + 2 := by omega
 have hcellA := hcell
 clear c30 hscell hcell
 obtain ⟨W4, eW4⟩ : ∃ W4, W3.alloc (.cells #[.int .i64 y.kind, .int .i64 y.at_, .int .i64 y.num, .int .i64 y.ty, .string y.name, .slice ply y.lab.length cly, .slice pay y.kids.length cay, .int .i64 x.kind, .int .i64 x.at_, .int .i64 x.num, .int .i64 x.ty, .string x.name, .slice plx x.lab.length clx, .slice pax x.kids.length cax] 26) = W4 := ⟨_, rfl⟩
 obtain ⟨W5, eW5⟩ : ∃ W5, W4.alloc (.cells #[.int .i64 3, .int .i64 s.2.1, .int .i64 0, .int .i64 0, .string s.2.2, .slice none 0 0, .slice (some ⟨W3.heap.size, 0, none⟩) 2 2] 26) = W5 := ⟨_, rfl⟩
 have hb4 : Below W3.heap.size W3 W4 := by rw [← eW4]; exact (Below.refl _ _).alloc (Nat.le_refl _) _
 have hb5 : Below W4.heap.size W4 W5 := by rw [← eW5]; exact (Below.refl _ _).alloc (Nat.le_refl _) _
 have hz4 : W4.heap.size = W3.heap.size + 1 := by rw [← eW4]; simp
 have hz5 : W5.heap.size = W3.heap.size + 2 := by rw [← eW5]; simp [hz4]
 have hP4 : Blk W4 W3.heap.size ([.int .i64 y.kind, .int .i64 y.at_, .int .i64 y.num, .int .i64 y.ty, .string y.name, .slice ply y.lab.length cly, .slice pay y.kids.length cay] ++ [.int .i64 x.kind, .int .i64 x.at_, .int .i64 x.num, .int .i64 x.ty, .string x.name, .slice plx x.lab.length clx, .slice pax x.kids.length cax]) 26 := by rw [← eW4]; exact Blk.new _ _ _
 have hP5 : Blk W5 (W3.heap.size + 1) (exC (putE s y x) (.slice none 0 0) (.slice (some ⟨W3.heap.size, 0, none⟩) 2 2)) 26 := by rw [← eW5, ← hz4]; exact Blk.new _ _ _
 have HS3 : Hid ((fun (w' : World) => w'.cell? ⟨wo.heap.size, 1, none⟩ = some (.int .i64 s.2.1) ∧ w'.cell? ⟨wo.heap.size, 2, none⟩ = some (.string s.2.2) ∧ w'.cell? ⟨gl, n * 7, none⟩ = some (.int .i64 y.kind) ∧ w'.cell? ⟨gl, n * 7 + 1, none⟩ = some (.int .i64 y.at_) ∧ w'.cell? ⟨gl, n * 7 + 2, none⟩ = some (.int .i64 y.num) ∧ w'.cell? ⟨gl, n * 7 + 3, none⟩ = some (.int .i64 y.ty) ∧ w'.cell? ⟨gl, n * 7 + 4, none⟩ = some (.string y.name) ∧ w'.cell? ⟨gl, n * 7 + 5, none⟩ = some (.slice ply y.lab.length cly) ∧ w'.cell? ⟨gl, n * 7 + 6, none⟩ = some (.slice pay y.kids.length cay) ∧ w'.cell? ⟨gl, (n + 1) * 7, none⟩ = some (.int .i64 x.kind) ∧ w'.cell? ⟨gl, (n + 1) * 7 + 1, none⟩ = some (.int .i64 x.at_) ∧ w'.cell? ⟨gl, (n + 1) * 7 + 2, none⟩ = some (.int .i64 x.num) ∧ w'.cell? ⟨gl, (n + 1) * 7 + 3, none⟩ = some (.int .i64 x.ty) ∧ w'.cell? ⟨gl, (n + 1) * 7 + 4, none⟩ = some (.string x.name) ∧ w'.cell? ⟨gl, (n + 1) * 7 + 5, none⟩ = some (.slice plx x.lab.length clx) ∧ w'.cell? ⟨gl, (n + 1) * 7 + 6, none⟩ = some (.slice pax x.kids.length cax)) W3) := ⟨q1, q2, y0, y1, y2, y3, y4, y5, y6, x0, x1, x2, x3, x4, x5, x6⟩
 have hsk : ∀ w', (∀ b o u, b ≠ b3 → W3.cell? ⟨b, o, none⟩ = some u → w'.cell? ⟨b, o, none⟩ = some u) → (fun (w' : World) => w'.cell? ⟨wo.heap.size, 1, none⟩ = some (.int .i64 s.2.1) ∧ w'.cell? ⟨wo.heap.size, 2, none⟩ = some (.string s.2.2) ∧ w'.cell? ⟨gl, n * 7, none⟩ = some (.int .i64 y.kind) ∧ w'.cell? ⟨gl, n * 7 + 1, none⟩ = some (.int .i64 y.at_) ∧ w'.cell? ⟨gl, n * 7 + 2, none⟩ = some (.int .i64 y.num) ∧ w'.cell? ⟨gl, n * 7 + 3, none⟩ = some (.int .i64 y.ty) ∧ w'.cell? ⟨gl, n * 7 + 4, none⟩ = some (.string y.name) ∧ w'.cell? ⟨gl, n * 7 + 5, none⟩ = some (.slice ply y.lab.length cly) ∧ w'.cell? ⟨gl, n * 7 + 6, none⟩ = some (.slice pay y.kids.length cay) ∧ w'.cell? ⟨gl, (n + 1) * 7, none⟩ = some (.int .i64 x.kind) ∧ w'.cell? ⟨gl, (n + 1) * 7 + 1, none⟩ = some (.int .i64 x.at_) ∧ w'.cell? ⟨gl, (n + 1) * 7 + 2, none⟩ = some (.int .i64 x.num) ∧ w'.cell? ⟨gl, (n + 1) * 7 + 3, none⟩ = some (.int .i64 x.ty) ∧ w'.cell? ⟨gl, (n + 1) * 7 + 4, none⟩ = some (.string x.name) ∧ w'.cell? ⟨gl, (n + 1) * 7 + 5, none⟩ = some (.slice plx x.lab.length clx) ∧ w'.cell? ⟨gl, (n + 1) * 7 + 6, none⟩ = some (.slice pax x.kids.length cax)) w' := fun w' hk =>
  ⟨hk _ _ _ hT3 q1, hk _ _ _ hT3 q2, hk _ _ _ hgl3 y0, hk _ _ _ hgl3 y1, hk _ _ _ hgl3 y2, hk _ _ _ hgl3 y3, hk _ _ _ hgl3 y4, hk _ _ _ hgl3 y5, hk _ _ _ hgl3 y6, hk _ _ _ hgl3 x0, hk _ _ _ hgl3 x1, hk _ _ _ hgl3 x2, hk _ _ _ hgl3 x3, hk _ _ _ hgl3 x4, hk _ _ _ hgl3 x5, hk _ _ _ hgl3 x6⟩
 have hkb : ∀ w', Below W3.heap.size W3 w' → ∀ b o u, W3.cell? ⟨b, o, none⟩ = some u → w'.cell? ⟨b, o, none⟩ = some u := fun w' hb b o u hu => (keeps_of_below hb).2 _ _ _ hu
 have HS4 : Hid ((fun (w' : World) => w'.cell? ⟨wo.heap.size, 1, none⟩ = some (.int .i64 s.2.1) ∧ w'.cell? ⟨wo.heap.size, 2, none⟩ = some (.string s.2.2) ∧ w'.cell? ⟨gl, n * 7, none⟩ = some (.int .i64 y.kind) ∧ w'.cell? ⟨gl, n * 7 + 1, none⟩ = some (.int .i64 y.at_) ∧ w'.cell? ⟨gl, n * 7 + 2, none⟩ = some (.int .i64 y.num) ∧ w'.cell? ⟨gl, n * 7 + 3, none⟩ = some (.int .i64 y.ty) ∧ w'.cell? ⟨gl, n * 7 + 4, none⟩ = some (.string y.name) ∧ w'.cell? ⟨gl, n * 7 + 5, none⟩ = some (.slice ply y.lab.length cly) ∧ w'.cell? ⟨gl, n * 7 + 6, none⟩ = some (.slice pay y.kids.length cay) ∧ w'.cell? ⟨gl, (n + 1) * 7, none⟩ = some (.int .i64 x.kind) ∧ w'.cell? ⟨gl, (n + 1) * 7 + 1, none⟩ = some (.int .i64 x.at_) ∧ w'.cell? ⟨gl, (n + 1) * 7 + 2, none⟩ = some (.int .i64 x.num) ∧ w'.cell? ⟨gl, (n + 1) * 7 + 3, none⟩ = some (.int .i64 x.ty) ∧ w'.cell? ⟨gl, (n + 1) * 7 + 4, none⟩ = some (.string x.name) ∧ w'.cell? ⟨gl, (n + 1) * 7 + 5, none⟩ = some (.slice plx x.lab.length clx) ∧ w'.cell? ⟨gl, (n + 1) * 7 + 6, none⟩ = some (.slice pax x.kids.length cax)) W4) := hsk W4 fun b o u _ hu => hkb W4 hb4 b o u hu
 have hb35 : Below W3.heap.size W3 W5 := hb4.trans (hb5.mono hb4.size)
 have HS5 : Hid ((fun (w' : World) => w'.cell? ⟨wo.heap.size, 1, none⟩ = some (.int .i64 s.2.1) ∧ w'.cell? ⟨wo.heap.size, 2, none⟩ = some (.string s.2.2) ∧ w'.cell? ⟨gl, n * 7, none⟩ = some (.int .i64 y.kind) ∧ w'.cell? ⟨gl, n * 7 + 1, none⟩ = some (.int .i64 y.at_) ∧ w'.cell? ⟨gl, n * 7 + 2, none⟩ = some (.int .i64 y.num) ∧ w'.cell? ⟨gl, n * 7 + 3, none⟩ = some (.int .i64 y.ty) ∧ w'.cell? ⟨gl, n * 7 + 4, none⟩ = some (.string y.name) ∧ w'.cell? ⟨gl, n * 7 + 5, none⟩ = some (.slice ply y.lab.length cly) ∧ w'.cell? ⟨gl, n * 7 + 6, none⟩ = some (.slice pay y.kids.length cay) ∧ w'.cell? ⟨gl, (n + 1) * 7, none⟩ = some (.int .i64 x.kind) ∧ w'.cell? ⟨gl, (n + 1) * 7 + 1, none⟩ = some (.int .i64 x.at_) ∧ w'.cell? ⟨gl, (n + 1) * 7 + 2, none⟩ = some (.int .i64 x.num) ∧ w'.cell? ⟨gl, (n + 1) * 7 + 3, none⟩ = some (.int .i64 x.ty) ∧ w'.cell? ⟨gl, (n + 1) * 7 + 4, none⟩ = some (.string x.name) ∧ w'.cell? ⟨gl, (n + 1) * 7 + 5, none⟩ = some (.slice plx x.lab.length clx) ∧ w'.cell? ⟨gl, (n + 1) * 7 + 6, none⟩ = some (.slice pax x.kids.length cax)) W5) := hsk W5 fun b o u _ hu => hkb W5 hb35 b o u hu
 have hb6 : ∀ w', W5.grownBy w' none → Below W3.heap.size W3 w' := fun w' hg => hb35.trans ((below_grown0 hg).mono hb35.size)
 have HS6 : Hid (∀ w', W5.grownBy w' none → (fun (w' : World) => w'.cell? ⟨wo.heap.size, 1, none⟩ = some (.int .i64 s.2.1) ∧ w'.cell? ⟨wo.heap.size, 2, none⟩ = some (.string s.2.2) ∧ w'.cell? ⟨gl, n * 7, none⟩ = some (.int .i64 y.kind) ∧ w'.cell? ⟨gl, n * 7 + 1, none⟩ = some (.int .i64 y.at_) ∧ w'.cell? ⟨gl, n * 7 + 2, none⟩ = some (.int .i64 y.num) ∧ w'.cell? ⟨gl, n * 7 + 3, none⟩ = some (.int .i64 y.ty) ∧ w'.cell? ⟨gl, n * 7 + 4, none⟩ = some (.string y.name) ∧ w'.cell? ⟨gl, n * 7 + 5, none⟩ = some (.slice ply y.lab.length cly) ∧ w'.cell? ⟨gl, n * 7 + 6, none⟩ = some (.slice pay y.kids.length cay) ∧ w'.cell? ⟨gl, (n + 1) * 7, none⟩ = some (.int .i64 x.kind) ∧ w'.cell? ⟨gl, (n + 1) * 7 + 1, none⟩ = some (.int .i64 x.at_) ∧ w'.cell? ⟨gl, (n + 1) * 7 + 2, none⟩ = some (.int .i64 x.num) ∧ w'.cell? ⟨gl, (n + 1) * 7 + 3, none⟩ = some (.int .i64 x.ty) ∧ w'.cell? ⟨gl, (n + 1) * 7 + 4, none⟩ = some (.string x.name) ∧ w'.cell? ⟨gl, (n + 1) * 7 + 5, none⟩ = some (.slice plx x.lab.length clx) ∧ w'.cell? ⟨gl, (n + 1) * 7 + 6, none⟩ = some (.slice pax x.kids.length cax)) w') := fun w' hg => hsk w' fun b o u _ hu => hkb w' (hb6 w' hg) b o u hu
 have HS7 : Hid (∀ v' w', W5.grownBy w' none → (fun (w' : World) => w'.cell? ⟨wo.heap.size, 1, none⟩ = some (.int .i64 s.2.1) ∧ w'.cell? ⟨wo.heap.size, 2, none⟩ = some (.string s.2.2) ∧ w'.cell? ⟨gl, n * 7, none⟩ = some (.int .i64 y.kind) ∧ w'.cell? ⟨gl, n * 7 + 1, none⟩ = some (.int .i64 y.at_) ∧ w'.cell? ⟨gl, n * 7 + 2, none⟩ = some (.int .i64 y.num) ∧ w'.cell? ⟨gl, n * 7 + 3, none⟩ = some (.int .i64 y.ty) ∧ w'.cell? ⟨gl, n * 7 + 4, none⟩ = some (.string y.name) ∧ w'.cell? ⟨gl, n * 7 + 5, none⟩ = some (.slice ply y.lab.length cly) ∧ w'.cell? ⟨gl, n * 7 + 6, none⟩ = some (.slice pay y.kids.length cay) ∧ w'.cell? ⟨gl, (n + 1) * 7, none⟩ = some (.int .i64 x.kind) ∧ w'.cell? ⟨gl, (n + 1) * 7 + 1, none⟩ = some (.int .i64 x.at_) ∧ w'.cell? ⟨gl, (n + 1) * 7 + 2, none⟩ = some (.int .i64 x.num) ∧ w'.cell? ⟨gl, (n + 1) * 7 + 3, none⟩ = some (.int .i64 x.ty) ∧ w'.cell? ⟨gl, (n + 1) * 7 + 4, none⟩ = some (.string x.name) ∧ w'.cell? ⟨gl, (n + 1) * 7 + 5, none⟩ = some (.slice plx x.lab.length clx) ∧ w'.cell? ⟨gl, (n + 1) * 7 + 6, none⟩ = some (.slice pax x.kids.length cax)) (w'.setCell ⟨b3, 0, none⟩ v')) := fun v' w' hg => hsk _ fun b o u hne hu => (World.cell?_setCell_far w' _ _ _ (fun e => hne e.symm)).trans (hkb w' (hb6 w' hg) b o u hu)
 have hC3 : Blk W3 b3 [.slice (some ⟨gl, 0, none⟩) (xs ++ [y, x]).length cl] 24 := (hone b3 H.out.c3.lt hn34).trans H.out.c3
 have HB3 : Hid (∀ w', W5.grownBy w' none → w'.cell? ⟨b3, 0, none⟩ = some (.slice (some ⟨gl, 0, none⟩) (n + 2) cl) ∧ w'.frozen? ⟨b3, 0, none⟩ = false) := fun w' hg => ⟨by have := (hC3.below (hb6 w' hg)).cell 0; simpa [hl2] using this, (hC3.below (hb6 w' hg)).fz 0⟩
 have HOLD : Hid (∀ b : Addr, some ⟨gl, 0, none⟩ = some b → ∀ j u, v1[j]? = some u → W5.cell? (b.add j) = some u) := fun b e j u hu => by
  cases e
  rw [Go.WideShapes.add_plain, Nat.zero_add]
  exact hkb W5 hb35 _ _ _ (hcell3 _ _ _ hgl4 (hcellA j u (by rw [List.getElem?_append_left (List.getElem?_eq_some_iff.1 hu).1]; exact hu)))
 have HNEW : Hid (∀ j u, (exC (putE s y x) (.slice none 0 0) (.slice (some ⟨W3.heap.size, 0, none⟩) 2 2))[j]? = some u → W5.cell? ((⟨W3.heap.size + 1, 0, none⟩ : Addr).add j) = some u) := fun j u hu => by
  rw [Go.WideShapes.add_plain, Nat.zero_add, hP5.cell j]
  exact hu
 have HONE : Hid (∀ u ∈ exC (putE s y x) (.slice none 0 0) (.slice (some ⟨W3.heap.size, 0, none⟩) 2 2), u.oneCell' = true) := fun u hu => by
  unfold exC at hu
  simp only [List.mem_cons, List.not_mem_nil, or_false] at hu
  rcases hu with hu | hu | hu | hu | hu | hu | hu <;> subst hu <;> rfl
 have HEND : Hid (∀ v' w', w'.ownsRow W5.heap.size 26 7 v' (n + 1) (v1 ++ exC (putE s y x) (.slice none 0 0) (.slice (some ⟨W3.heap.size, 0, none⟩) 2 2)) → W5.grownBy w' none →
  Ending.returned (.tuple #[]) = Ending.returned (.tuple #[]) ∧ Aside1 B w (w'.setCell ⟨b3, 0, none⟩ v') ∧ (∀ b, b < wo.heap.size → b ≠ b3 → b ≠ b4 → (w'.setCell ⟨b3, 0, none⟩ v').heap[b]? = wo.heap[b]?) ∧ ∃ lv' sv', EI w (w'.setCell ⟨b3, 0, none⟩ v') B T E tv bl al n0 b3 b4 lv' sv' (xs ++ [putE s y x]) ss t) := fun v' w' hown hgr => by
  have hg0 := below_grown0 hgr
  have hbw := hb6 w' hgr
  obtain ⟨g', cap', rfl, hg'0, hg'1, _, _, _⟩ := own_form hown (by omega)
  have A2 : Aside1 B w W2 := by rw [← eW2]; exact aside_set_new (H.out.aside.trans (aside_below hb1)) (by omega) _
  have A3 : Aside1 B w w' := (A2.trans (aside_below hb3)).trans (aside_below hbw)
  have A4 : Aside1 B w (w'.setCell ⟨b3, 0, none⟩ (.slice (some ⟨g', 0, none⟩) (n + 1) cap')) := aside_set_new A3 (by omega) _
  have R2 : Txr W2 B T E tv t bl al := by
   have A2' := A2
   rw [← eW2] at A2' ⊢
   exact (H.out.rdr.below hb1).set HTK.out (by omega) A2'
  have R4 := ((R2.below hb3).below hbw).set HTK.out (by omega) A4
  have hb3lt := H.out.c3.lt
  have hb4lt := H.out.c4.lt
  have hrest : ∀ b, b < wo.heap.size → b ≠ b3 → b ≠ b4 → (w'.setCell ⟨b3, 0, none⟩ (.slice (some ⟨g', 0, none⟩) (n + 1) cap')).heap[b]? = wo.heap[b]? := fun b hb h3 h4 => by
   rw [Below.heap_setCell _ _ _ _ (by simpa using h3), hbw.block b (by omega)]
   exact hone b hb h4
  have hgs3 : gs ≠ b3 := fun e => H.out.far.2.2.1 (by rw [e]; rfl)
  have hgs4 : gs ≠ b4 := fun e => H.out.far.2.2.2 (by rw [e]; rfl)
  have hq : ∀ b, b < wo.heap.size → prv n0 b3 b4 (.slice (some ⟨gl, 0, none⟩) (xs ++ [y, x]).length cl) (.slice (some ⟨gs, 0, none⟩) (ss ++ [s]).length cs) b = false → prv n0 b3 b4 (.slice (some ⟨g', 0, none⟩) (n + 1) cap') (.slice (some ⟨gs, 0, none⟩) m cs) b = false ∧ (w'.setCell ⟨b3, 0, none⟩ (.slice (some ⟨g', 0, none⟩) (n + 1) cap')).heap[b]? = wo.heap[b]? := fun b hb hp => by
   obtain ⟨p1, p2, p3, p4, p5⟩ := prv_no.1 hp
   exact ⟨prv_no.2 ⟨p1, p2, p3, fun e => by simp [Value.ownBlock] at e; omega, p5⟩, hrest b hb p2 p3⟩
  have hszw : wo.heap.size ≤ (w'.setCell ⟨b3, 0, none⟩ (.slice (some ⟨g', 0, none⟩) (n + 1) cap')).heap.size := by have h1 := hbw.size; simp [World.setCell]; omega
  have hy' := exE_stays _ _ _ _ (keeps_hide hszw hq) HY.out
  have hx' := exE_stays _ _ _ _ (keeps_hide hszw hq) HX.out
  have hq2 : prv n0 b3 b4 (.slice (some ⟨g', 0, none⟩) (n + 1) cap') (.slice (some ⟨gs, 0, none⟩) m cs) W3.heap.size = false := prv_no.2 ⟨by omega, by omega, by omega, fun e => by simp [Value.ownBlock] at e; omega, fun e => by simp [Value.ownBlock] at e; omega⟩
  have hP9 : Blk (w'.setCell ⟨b3, 0, none⟩ (.slice (some ⟨g', 0, none⟩) (n + 1) cap')) W3.heap.size ([.int .i64 y.kind, .int .i64 y.at_, .int .i64 y.num, .int .i64 y.ty, .string y.name, .slice ply y.lab.length cly, .slice pay y.kids.length cay] ++ [.int .i64 x.kind, .int .i64 x.at_, .int .i64 x.num, .int .i64 x.ty, .string x.name, .slice plx x.lab.length clx, .slice pax x.kids.length cax]) 26 := ((hP4.below hb5).below hg0).other (by omega) _ _
  have hop := exE_mk (kind := 3) (at_ := s.2.1) (n := 0) (ty := 0) (name := s.2.2) (lbl_nil _) (exs_two hy' hx' rfl rfl hP9 hq2)
  refine ⟨rfl, A4, hrest, _, .slice (some ⟨gs, 0, none⟩) m cs, R4, A4, ⟨v1 ++ exC (putE s y x) (.slice none 0 0) (.slice (some ⟨W3.heap.size, 0, none⟩) 2 2), ?_, Rows.append (rows_to hszw hq hr1) (.one hop rfl)⟩, ?_, ?_, ?_, ?_, ?_, H.out.num⟩
  · have : (xs ++ [putE s y x]).length = n + 1 := by simp [hnl]
    rw [this]
    exact own_move (own_old hown (by omega)) (fun g e => by
     have e' : g' = g := by simpa [Value.ownBlock] using e
     exact Below.heap_setCell _ _ _ _ (by simp; omega))
  · have h1 := own_less hso (Nat.le_succ m)
    have h2 : (tksC (ss ++ [s])).take (m * 3) = tksC ss := by rw [tksC_snoc, List.take_append_of_le_length (by rw [tksC_len]; omega), List.take_of_length_le (by rw [tksC_len]; omega)]
    rw [h2] at h1
    rw [hns]
    exact own_move h1 (fun g e => by
     have e' : gs = g := by simpa [Value.ownBlock] using e
     exact hrest g (by omega) (by omega) (by omega))
  · exact (hC3.below hbw).set 0 _
  · have h1 : Blk W2 b4 [.slice (some ⟨gs, 0, none⟩) m cs] 79 := by rw [← eW2]; exact (H.out.c4.below hb1).set 0 _
    exact (((h1.below hb3).below hbw).other (by omega) _ _)
  · exact ⟨fun e => by simp [Value.ownBlock] at e; omega, fun e => by simp [Value.ownBlock] at e; omega, fun e => hgs3 (by simpa [Value.ownBlock] using e), fun e => hgs4 (by simpa [Value.ownBlock] using e)⟩
  · exact fun g e e2 => by simp [Value.ownBlock] at e e2; omega
 have hnn : n ≤ 1000000 := hx1000
 have k4 := hkb W4 hb4 _ _ _ k0
 have k5 := hkb W5 hb35 _ _ _ k0
 clear hone hcell3 hcy hcx hct hcellA hr1 hrows hsk hkb hb35 hb6 hC3 hP4 hP5 hy hxx hlo hso hb1 hb3 hb4 hb5 hs2 hT1 hT2 hl2 hs1 hnl hns
 refine wp_region_held_drew (S := fun (w' : World) => w'.cell? ⟨wo.heap.size, 1, none⟩ = some (.int .i64 s.2.1) ∧ w'.cell? ⟨wo.heap.size, 2, none⟩ = some (.string s.2.2) ∧ w'.cell? ⟨gl, n * 7, none⟩ = some (.int .i64 y.kind) ∧ w'.cell? ⟨gl, n * 7 + 1, none⟩ = some (.int .i64 y.at_) ∧ w'.cell? ⟨gl, n * 7 + 2, none⟩ = some (.int .i64 y.num) ∧ w'.cell? ⟨gl, n * 7 + 3, none⟩ = some (.int .i64 y.ty) ∧ w'.cell? ⟨gl, n * 7 + 4, none⟩ = some (.string y.name) ∧ w'.cell? ⟨gl, n * 7 + 5, none⟩ = some (.slice ply y.lab.length cly) ∧ w'.cell? ⟨gl, n * 7 + 6, none⟩ = some (.slice pay y.kids.length cay) ∧ w'.cell? ⟨gl, (n + 1) * 7, none⟩ = some (.int .i64 x.kind) ∧ w'.cell? ⟨gl, (n + 1) * 7 + 1, none⟩ = some (.int .i64 x.at_) ∧ w'.cell? ⟨gl, (n + 1) * 7 + 2, none⟩ = some (.int .i64 x.num) ∧ w'.cell? ⟨gl, (n + 1) * 7 + 3, none⟩ = some (.int .i64 x.ty) ∧ w'.cell? ⟨gl, (n + 1) * 7 + 4, none⟩ = some (.string x.name) ∧ w'.cell? ⟨gl, (n + 1) * 7 + 5, none⟩ = some (.slice plx x.lab.length clx) ∧ w'.cell? ⟨gl, (n + 1) * 7 + 6, none⟩ = some (.slice pax x.kids.length cax)) (by kernel_rfl) ?_ (fun hHeld => ?_)
 · rw [eW3]; exact HS3.out
 rw [eW3]
 rw [eW3] at hHeld
 refine wpAnyH_take (i := 1) (v := ?v1x1) rfl (by kernel_rfl) (by kernel_rfl) (by kernel_rfl) (fun _ _ _ h => h) (Or.inl ⟨by rfl, ?h1x1⟩) (by assumption) ?r1x1
 case h1x1 => (intro w hSw; (try dsimp only at hSw); first | (go_simp; done) | (go_simp; with_reducible rfl))
 try simp only [Act.put, List.setIfInBounds_toArray, List.set_cons_zero, List.set_cons_succ]
 refine wpAnyH_take (i := 2) (v := ?v2x2) rfl (by kernel_rfl) (by kernel_rfl) (by kernel_rfl) (fun _ _ _ h => h) (Or.inl ⟨by rfl, ?h2x2⟩) (by assumption) ?r2x2
 case h2x2 => (intro w hSw; (try dsimp only at hSw); first | (go_simp; done) | (go_simp; with_reducible rfl))
 try simp only [Act.put, List.setIfInBounds_toArray, List.set_cons_zero, List.set_cons_succ]
 refine wpAnyH_take (i := 3) (v := ?v3x3) rfl (by kernel_rfl) (by kernel_rfl) (by kernel_rfl) (fun _ _ _ h => h) (Or.inl ⟨by rfl, ?h3x3⟩) (by assumption) ?r3x3
 case h3x3 => (intro w hSw; (try dsimp only at hSw); first | (go_simp; done) | (go_simp; with_reducible rfl))
 try simp only [Act.put, List.setIfInBounds_toArray, List.set_cons_zero, List.set_cons_succ]
 refine wpAnyH_take (i := 4) (v := ?v4x4) rfl (by kernel_rfl) (by kernel_rfl) (by kernel_rfl) (fun _ _ _ h => h) (Or.inl ⟨by rfl, ?h4x4⟩) (by assumption) ?r4x4
 case h4x4 => (intro w hSw; (try dsimp only at hSw); first | (go_simp; done) | (go_simp; with_reducible rfl))
 try simp only [Act.put, List.setIfInBounds_toArray, List.set_cons_zero, List.set_cons_succ]
 refine wpAnyH_take (i := 6) (v := ?v6x5) rfl (by kernel_rfl) (by kernel_rfl) (by kernel_rfl) (fun _ _ _ h => h) (Or.inl ⟨by rfl, ?h6x5⟩) (by assumption) ?r6x5
 case h6x5 => (intro w hSw; (try dsimp only at hSw); first | (go_simp; done) | (go_simp; with_reducible rfl))
 try simp only [Act.put, List.setIfInBounds_toArray, List.set_cons_zero, List.set_cons_succ]
 refine wpAnyH_take (i := 7) (v := ?v7x6) rfl (by kernel_rfl) (by kernel_rfl) (by kernel_rfl) (fun _ _ _ h => h) (Or.inl ⟨by rfl, ?h7x6⟩) (by assumption) ?r7x6
 case h7x6 => (intro w hSw; (try dsimp only at hSw); first | (go_simp; done) | (go_simp; with_reducible rfl))
 try simp only [Act.put, List.setIfInBounds_toArray, List.set_cons_zero, List.set_cons_succ]
 refine wpAnyH_take (i := 8) (v := ?v8x7) rfl (by kernel_rfl) (by kernel_rfl) (by kernel_rfl) (fun _ _ _ h => h) (Or.inl ⟨by rfl, ?h8x7⟩) (by assumption) ?r8x7
 case h8x7 => (intro w hSw; (try dsimp only at hSw); first | (go_simp; done) | (go_simp; with_reducible rfl))
 try simp only [Act.put, List.setIfInBounds_toArray, List.set_cons_zero, List.set_cons_succ]
 refine wpAnyH_take (i := 9) (v := ?v9x8) rfl (by kernel_rfl) (by kernel_rfl) (by kernel_rfl) (fun _ _ _ h => h) (Or.inl ⟨by rfl, ?h9x8⟩) (by assumption) ?r9x8
 case h9x8 => (intro w hSw; (try dsimp only at hSw); first | (go_simp; done) | (go_simp; with_reducible rfl))
 try simp only [Act.put, List.setIfInBounds_toArray, List.set_cons_zero, List.set_cons_succ]
 refine wpAnyH_take (i := 11) (v := ?v11x9) rfl (by kernel_rfl) (by kernel_rfl) (by kernel_rfl) (fun _ _ _ h => h) (Or.inl ⟨by rfl, ?h11x9⟩) (by assumption) ?r11x9
 case h11x9 => (intro w hSw; (try dsimp only at hSw); first | (go_simp; done) | (go_simp; with_reducible rfl))
 try simp only [Act.put, List.setIfInBounds_toArray, List.set_cons_zero, List.set_cons_succ]
 refine wpAnyH_take (i := 12) (v := ?v12x10) rfl (by kernel_rfl) (by kernel_rfl) (by kernel_rfl) (fun _ _ _ h => h) (Or.inl ⟨by rfl, ?h12x10⟩) (by assumption) ?r12x10
 case h12x10 => (intro w hSw; (try dsimp only at hSw); first | (go_simp; done) | (go_simp; with_reducible rfl))
 try simp only [Act.put, List.setIfInBounds_toArray, List.set_cons_zero, List.set_cons_succ]
 refine wpAnyH_take (i := 16) (v := ?v16x11) rfl (by kernel_rfl) (by kernel_rfl) (by kernel_rfl) (fun _ _ _ h => h) (Or.inl ⟨by rfl, ?h16x11⟩) (by assumption) ?r16x11
 case h16x11 => (intro w hSw; (try dsimp only at hSw); first | (go_simp; done) | (go_simp; with_reducible rfl))
 try simp only [Act.put, List.setIfInBounds_toArray, List.set_cons_zero, List.set_cons_succ]
 refine wpAnyH_take (i := 17) (v := ?v17x12) rfl (by kernel_rfl) (by kernel_rfl) (by kernel_rfl) (fun _ _ _ h => h) (Or.inl ⟨by rfl, ?h17x12⟩) (by assumption) ?r17x12
 case h17x12 => (intro w hSw; (try dsimp only at hSw); first | (go_simp; done) | (go_simp; with_reducible rfl))
 try simp only [Act.put, List.setIfInBounds_toArray, List.set_cons_zero, List.set_cons_succ]
 refine wpAnyH_ready (rs := [0, 10, 15]) (by kernel_rfl) (by simp) ?_
 refine AllReadyH.cons rfl (fun K hK => ?_) (AllReadyH.cons rfl (fun K hK => ?_) (AllReadyH.cons rfl (fun K hK => ?_) AllReadyH.nil))
 · skip
   go_simp
   refine hK.out _ _ ?_ (fun hHeld => ?_)
   · exact HS3.out
   clear hK K
   try simp only [Act.put, List.setIfInBounds_toArray, List.set_cons_zero, List.set_cons_succ]
   refine wpAnyH_take (i := 5) (v := ?v5x13) rfl (by kernel_rfl) (by kernel_rfl) (by kernel_rfl) (fun _ _ _ h => h) (Or.inl ⟨by rfl, ?h5x13⟩) (by assumption) ?r5x13
   case h5x13 => (intro w hSw; (try dsimp only at hSw); first | (go_simp; done) | (go_simp; with_reducible rfl))
   try simp only [Act.put, List.setIfInBounds_toArray, List.set_cons_zero, List.set_cons_succ]
   refine wpAnyH_ready (rs := [10, 15]) (by kernel_rfl) (by simp) ?_
   refine AllReadyH.cons rfl (fun K hK => ?_) (AllReadyH.cons rfl (fun K hK => ?_) AllReadyH.nil)
   · skip
     go_simp
     refine hK.out _ _ ?_ (fun hHeld => ?_)
     · exact HS3.out
     clear hK K
     try simp only [Act.put, List.setIfInBounds_toArray, List.set_cons_zero, List.set_cons_succ]
     refine wpAnyH_take (i := 13) (v := ?v13x14) rfl (by kernel_rfl) (by kernel_rfl) (by kernel_rfl) (fun _ _ _ h => h) (Or.inl ⟨by rfl, ?h13x14⟩) (by assumption) ?r13x14
     case h13x14 => (intro w hSw; (try dsimp only at hSw); first | (go_simp; done) | (go_simp; with_reducible rfl))
     try simp only [Act.put, List.setIfInBounds_toArray, List.set_cons_zero, List.set_cons_succ]
     refine wpAnyH_take (i := 14) (v := ?v14x15) rfl (by kernel_rfl) (by kernel_rfl) (by kernel_rfl) (fun _ _ _ h => h) (Or.inl ⟨by rfl, ?h14x15⟩) (by assumption) ?r14x15
     case h14x15 => (intro w hSw; (try dsimp only at hSw); first | (go_simp; done) | (go_simp; with_reducible rfl))
     try simp only [Act.put, List.setIfInBounds_toArray, List.set_cons_zero, List.set_cons_succ]
     refine wpAnyH_ready (rs := [15]) (by kernel_rfl) (by simp) ?_
     refine AllReadyH.cons rfl (fun K hK => ?_) AllReadyH.nil
     go_simp
     refine hK.out _ _ ?_ (fun hHeld => ?_)
     · exact HS3.out
     clear hK K
     try simp only [Act.put, List.setIfInBounds_toArray, List.set_cons_zero, List.set_cons_succ]
     refine wpAnyH_take (i := 18) (v := ?v18x16) rfl (by kernel_rfl) (by kernel_rfl) (by kernel_rfl) (fun _ _ _ h => h) (Or.inl ⟨by rfl, ?h18x16⟩) (by assumption) ?r18x16
     case h18x16 => (intro w hSw; (try dsimp only at hSw); first | (go_simp; done) | (go_simp; with_reducible rfl))
     try simp only [Act.put, List.setIfInBounds_toArray, List.set_cons_zero, List.set_cons_succ]
     refine wpAnyH_take (i := 19) (v := ?v19x17) rfl (by kernel_rfl) (by kernel_rfl) (by kernel_rfl) (fun _ _ _ h => h) (Or.inl ⟨by rfl, ?h19x17⟩) (by assumption) ?r19x17
     case h19x17 => (intro w hSw; (try dsimp only at hSw); first | (go_simp; done) | (go_simp; with_reducible rfl))
     try simp only [Act.put, List.setIfInBounds_toArray, List.set_cons_zero, List.set_cons_succ]
     refine wpAnyH_ready (rs := [20]) (by kernel_rfl) (by simp) ?_
     refine AllReadyH.cons rfl (fun K hK => ?_) AllReadyH.nil
     go_simp
     refine hK.out _ _ ?_ (fun hHeld => ?_)
     · exact HS4.out
     clear hK K
     try simp only [Act.put, List.setIfInBounds_toArray, List.set_cons_zero, List.set_cons_succ]
     refine wpAnyH_take (i := 21) (v := ?v21x18) rfl (by kernel_rfl) (by kernel_rfl) (by kernel_rfl) (fun _ _ _ h => h) (Or.inl ⟨by rfl, ?h21x18⟩) (by assumption) ?r21x18
     case h21x18 => (intro w hSw; (try dsimp only at hSw); first | (go_simp; done) | (go_simp; with_reducible rfl))
     try simp only [Act.put, List.setIfInBounds_toArray, List.set_cons_zero, List.set_cons_succ]
     refine wpAnyH_ready (rs := [22]) (by kernel_rfl) (by simp) ?_
     refine AllReadyH.cons rfl (fun K hK => ?_) AllReadyH.nil
     go_simp
     refine hK.out _ _ ?_ (fun hHeld => ?_)
     · exact HS5.out
     clear hK K
     try simp only [Act.put, List.setIfInBounds_toArray, List.set_cons_zero, List.set_cons_succ]
     refine wpAnyH_ready (rs := [23]) (by kernel_rfl) (by simp) ?_
     refine AllReadyH.cons rfl (fun K hK => ?_) AllReadyH.nil
     refine step_append_grows rfl (.tmp 22) (.tmp 39) 24 rfl 26 t0 (.agg #[.int .i64 0, .int .i64 0, .int .i64 0, .int .i64 0, .string ⟨#[]⟩, .slice none 0 0, .slice none 0 0]) 7 96 Tryz.underlying24 hi hz0 hz1 hz2 rfl (by decide) (some ⟨gl, 0, none⟩) n n v1 (by simp [Act.eval, Act.put]) (fun e => by cases e) l1 HOLD.out ⟨W3.heap.size + 1, 0, none⟩ 1 1 (exC (putE s y x) (.slice none 0 0) (.slice (some ⟨W3.heap.size, 0, none⟩) 2 2)) (by simp [Act.eval, Act.put]) rfl HNEW.out HONE.out (by omega) (by unfold maxLen; omega) (by omega) ?_
     intro v' w' hown hgr
     obtain ⟨g', cap', rfl, hg'0, _⟩ := own_form hown (Nat.succ_pos n)
     refine hK.out _ _ ?_ (fun hHeld => ?_)
     · exact HS6.out _ hgr
     clear hK K
     try simp only [Act.put, List.setIfInBounds_toArray, List.set_cons_zero, List.set_cons_succ]
     obtain ⟨e3, f3⟩ := HB3.out _ hgr
     refine wpAnyH_ready (rs := [24]) (by kernel_rfl) (by simp) ?_
     refine AllReadyH.cons rfl (fun K hK => ?_) AllReadyH.nil
     go_simp
     refine hK.out _ _ ?_ (fun hHeld => ?_)
     · exact HS7.out _ _ hgr
     clear hK K
     try simp only [Act.put, List.setIfInBounds_toArray, List.set_cons_zero, List.set_cons_succ]
     refine wpAnyH_done (by kernel_rfl) ?_ _
     go_wp2_with (fail)
     go_end0
     exact ⟨rfl, (HEND.out _ _ hown hgr).2⟩
   · skip
     go_simp
     refine hK.out _ _ ?_ (fun hHeld => ?_)
     · exact HS3.out
     clear hK K
     try simp only [Act.put, List.setIfInBounds_toArray, List.set_cons_zero, List.set_cons_succ]
     refine wpAnyH_take (i := 18) (v := ?v18x19) rfl (by kernel_rfl) (by kernel_rfl) (by kernel_rfl) (fun _ _ _ h => h) (Or.inl ⟨by rfl, ?h18x19⟩) (by assumption) ?r18x19
     case h18x19 => (intro w hSw; (try dsimp only at hSw); first | (go_simp; done) | (go_simp; with_reducible rfl))
     try simp only [Act.put, List.setIfInBounds_toArray, List.set_cons_zero, List.set_cons_succ]
     refine wpAnyH_take (i := 19) (v := ?v19x20) rfl (by kernel_rfl) (by kernel_rfl) (by kernel_rfl) (fun _ _ _ h => h) (Or.inl ⟨by rfl, ?h19x20⟩) (by assumption) ?r19x20
     case h19x20 => (intro w hSw; (try dsimp only at hSw); first | (go_simp; done) | (go_simp; with_reducible rfl))
     try simp only [Act.put, List.setIfInBounds_toArray, List.set_cons_zero, List.set_cons_succ]
     refine wpAnyH_ready (rs := [10]) (by kernel_rfl) (by simp) ?_
     refine AllReadyH.cons rfl (fun K hK => ?_) AllReadyH.nil
     go_simp
     refine hK.out _ _ ?_ (fun hHeld => ?_)
     · exact HS3.out
     clear hK K
     try simp only [Act.put, List.setIfInBounds_toArray, List.set_cons_zero, List.set_cons_succ]
     refine wpAnyH_take (i := 13) (v := ?v13x21) rfl (by kernel_rfl) (by kernel_rfl) (by kernel_rfl) (fun _ _ _ h => h) (Or.inl ⟨by rfl, ?h13x21⟩) (by assumption) ?r13x21
     case h13x21 => (intro w hSw; (try dsimp only at hSw); first | (go_simp; done) | (go_simp; with_reducible rfl))
     try simp only [Act.put, List.setIfInBounds_toArray, List.set_cons_zero, List.set_cons_succ]
     refine wpAnyH_take (i := 14) (v := ?v14x22) rfl (by kernel_rfl) (by kernel_rfl) (by kernel_rfl) (fun _ _ _ h => h) (Or.inl ⟨by rfl, ?h14x22⟩) (by assumption) ?r14x22
     case h14x22 => (intro w hSw; (try dsimp only at hSw); first | (go_simp; done) | (go_simp; with_reducible rfl))
     try simp only [Act.put, List.setIfInBounds_toArray, List.set_cons_zero, List.set_cons_succ]
     refine wpAnyH_ready (rs := [20]) (by kernel_rfl) (by simp) ?_
     refine AllReadyH.cons rfl (fun K hK => ?_) AllReadyH.nil
     go_simp
     refine hK.out _ _ ?_ (fun hHeld => ?_)
     · exact HS4.out
     clear hK K
     try simp only [Act.put, List.setIfInBounds_toArray, List.set_cons_zero, List.set_cons_succ]
     refine wpAnyH_take (i := 21) (v := ?v21x23) rfl (by kernel_rfl) (by kernel_rfl) (by kernel_rfl) (fun _ _ _ h => h) (Or.inl ⟨by rfl, ?h21x23⟩) (by assumption) ?r21x23
     case h21x23 => (intro w hSw; (try dsimp only at hSw); first | (go_simp; done) | (go_simp; with_reducible rfl))
     try simp only [Act.put, List.setIfInBounds_toArray, List.set_cons_zero, List.set_cons_succ]
     refine wpAnyH_ready (rs := [22]) (by kernel_rfl) (by simp) ?_
     refine AllReadyH.cons rfl (fun K hK => ?_) AllReadyH.nil
     go_simp
     refine hK.out _ _ ?_ (fun hHeld => ?_)
     · exact HS5.out
     clear hK K
     try simp only [Act.put, List.setIfInBounds_toArray, List.set_cons_zero, List.set_cons_succ]
     refine wpAnyH_ready (rs := [23]) (by kernel_rfl) (by simp) ?_
     refine AllReadyH.cons rfl (fun K hK => ?_) AllReadyH.nil
     refine step_append_grows rfl (.tmp 22) (.tmp 39) 24 rfl 26 t0 (.agg #[.int .i64 0, .int .i64 0, .int .i64 0, .int .i64 0, .string ⟨#[]⟩, .slice none 0 0, .slice none 0 0]) 7 96 Tryz.underlying24 hi hz0 hz1 hz2 rfl (by decide) (some ⟨gl, 0, none⟩) n n v1 (by simp [Act.eval, Act.put]) (fun e => by cases e) l1 HOLD.out ⟨W3.heap.size + 1, 0, none⟩ 1 1 (exC (putE s y x) (.slice none 0 0) (.slice (some ⟨W3.heap.size, 0, none⟩) 2 2)) (by simp [Act.eval, Act.put]) rfl HNEW.out HONE.out (by omega) (by unfold maxLen; omega) (by omega) ?_
     intro v' w' hown hgr
     obtain ⟨g', cap', rfl, hg'0, _⟩ := own_form hown (Nat.succ_pos n)
     refine hK.out _ _ ?_ (fun hHeld => ?_)
     · exact HS6.out _ hgr
     clear hK K
     try simp only [Act.put, List.setIfInBounds_toArray, List.set_cons_zero, List.set_cons_succ]
     obtain ⟨e3, f3⟩ := HB3.out _ hgr
     refine wpAnyH_ready (rs := [24]) (by kernel_rfl) (by simp) ?_
     refine AllReadyH.cons rfl (fun K hK => ?_) AllReadyH.nil
     go_simp
     refine hK.out _ _ ?_ (fun hHeld => ?_)
     · exact HS7.out _ _ hgr
     clear hK K
     try simp only [Act.put, List.setIfInBounds_toArray, List.set_cons_zero, List.set_cons_succ]
     refine wpAnyH_done (by kernel_rfl) ?_ _
     go_wp2_with (fail)
     go_end0
     exact ⟨rfl, (HEND.out _ _ hown hgr).2⟩
 · skip
   go_simp
   refine hK.out _ _ ?_ (fun hHeld => ?_)
   · exact HS3.out
   clear hK K
   try simp only [Act.put, List.setIfInBounds_toArray, List.set_cons_zero, List.set_cons_succ]
   refine wpAnyH_take (i := 13) (v := ?v13x24) rfl (by kernel_rfl) (by kernel_rfl) (by kernel_rfl) (fun _ _ _ h => h) (Or.inl ⟨by rfl, ?h13x24⟩) (by assumption) ?r13x24
   case h13x24 => (intro w hSw; (try dsimp only at hSw); first | (go_simp; done) | (go_simp; with_reducible rfl))
   try simp only [Act.put, List.setIfInBounds_toArray, List.set_cons_zero, List.set_cons_succ]
   refine wpAnyH_take (i := 14) (v := ?v14x25) rfl (by kernel_rfl) (by kernel_rfl) (by kernel_rfl) (fun _ _ _ h => h) (Or.inl ⟨by rfl, ?h14x25⟩) (by assumption) ?r14x25
   case h14x25 => (intro w hSw; (try dsimp only at hSw); first | (go_simp; done) | (go_simp; with_reducible rfl))
   try simp only [Act.put, List.setIfInBounds_toArray, List.set_cons_zero, List.set_cons_succ]
   refine wpAnyH_ready (rs := [0, 15]) (by kernel_rfl) (by simp) ?_
   refine AllReadyH.cons rfl (fun K hK => ?_) (AllReadyH.cons rfl (fun K hK => ?_) AllReadyH.nil)
   · skip
     go_simp
     refine hK.out _ _ ?_ (fun hHeld => ?_)
     · exact HS3.out
     clear hK K
     try simp only [Act.put, List.setIfInBounds_toArray, List.set_cons_zero, List.set_cons_succ]
     refine wpAnyH_take (i := 5) (v := ?v5x26) rfl (by kernel_rfl) (by kernel_rfl) (by kernel_rfl) (fun _ _ _ h => h) (Or.inl ⟨by rfl, ?h5x26⟩) (by assumption) ?r5x26
     case h5x26 => (intro w hSw; (try dsimp only at hSw); first | (go_simp; done) | (go_simp; with_reducible rfl))
     try simp only [Act.put, List.setIfInBounds_toArray, List.set_cons_zero, List.set_cons_succ]
     refine wpAnyH_ready (rs := [15]) (by kernel_rfl) (by simp) ?_
     refine AllReadyH.cons rfl (fun K hK => ?_) AllReadyH.nil
     go_simp
     refine hK.out _ _ ?_ (fun hHeld => ?_)
     · exact HS3.out
     clear hK K
     try simp only [Act.put, List.setIfInBounds_toArray, List.set_cons_zero, List.set_cons_succ]
     refine wpAnyH_take (i := 18) (v := ?v18x27) rfl (by kernel_rfl) (by kernel_rfl) (by kernel_rfl) (fun _ _ _ h => h) (Or.inl ⟨by rfl, ?h18x27⟩) (by assumption) ?r18x27
     case h18x27 => (intro w hSw; (try dsimp only at hSw); first | (go_simp; done) | (go_simp; with_reducible rfl))
     try simp only [Act.put, List.setIfInBounds_toArray, List.set_cons_zero, List.set_cons_succ]
     refine wpAnyH_take (i := 19) (v := ?v19x28) rfl (by kernel_rfl) (by kernel_rfl) (by kernel_rfl) (fun _ _ _ h => h) (Or.inl ⟨by rfl, ?h19x28⟩) (by assumption) ?r19x28
     case h19x28 => (intro w hSw; (try dsimp only at hSw); first | (go_simp; done) | (go_simp; with_reducible rfl))
     try simp only [Act.put, List.setIfInBounds_toArray, List.set_cons_zero, List.set_cons_succ]
     refine wpAnyH_ready (rs := [20]) (by kernel_rfl) (by simp) ?_
     refine AllReadyH.cons rfl (fun K hK => ?_) AllReadyH.nil
     go_simp
     refine hK.out _ _ ?_ (fun hHeld => ?_)
     · exact HS4.out
     clear hK K
     try simp only [Act.put, List.setIfInBounds_toArray, List.set_cons_zero, List.set_cons_succ]
     refine wpAnyH_take (i := 21) (v := ?v21x29) rfl (by kernel_rfl) (by kernel_rfl) (by kernel_rfl) (fun _ _ _ h => h) (Or.inl ⟨by rfl, ?h21x29⟩) (by assumption) ?r21x29
     case h21x29 => (intro w hSw; (try dsimp only at hSw); first | (go_simp; done) | (go_simp; with_reducible rfl))
     try simp only [Act.put, List.setIfInBounds_toArray, List.set_cons_zero, List.set_cons_succ]
     refine wpAnyH_ready (rs := [22]) (by kernel_rfl) (by simp) ?_
     refine AllReadyH.cons rfl (fun K hK => ?_) AllReadyH.nil
     go_simp
     refine hK.out _ _ ?_ (fun hHeld => ?_)
     · exact HS5.out
     clear hK K
     try simp only [Act.put, List.setIfInBounds_toArray, List.set_cons_zero, List.set_cons_succ]
     refine wpAnyH_ready (rs := [23]) (by kernel_rfl) (by simp) ?_
     refine AllReadyH.cons rfl (fun K hK => ?_) AllReadyH.nil
     refine step_append_grows rfl (.tmp 22) (.tmp 39) 24 rfl 26 t0 (.agg #[.int .i64 0, .int .i64 0, .int .i64 0, .int .i64 0, .string ⟨#[]⟩, .slice none 0 0, .slice none 0 0]) 7 96 Tryz.underlying24 hi hz0 hz1 hz2 rfl (by decide) (some ⟨gl, 0, none⟩) n n v1 (by simp [Act.eval, Act.put]) (fun e => by cases e) l1 HOLD.out ⟨W3.heap.size + 1, 0, none⟩ 1 1 (exC (putE s y x) (.slice none 0 0) (.slice (some ⟨W3.heap.size, 0, none⟩) 2 2)) (by simp [Act.eval, Act.put]) rfl HNEW.out HONE.out (by omega) (by unfold maxLen; omega) (by omega) ?_
     intro v' w' hown hgr
     obtain ⟨g', cap', rfl, hg'0, _⟩ := own_form hown (Nat.succ_pos n)
     refine hK.out _ _ ?_ (fun hHeld => ?_)
     · exact HS6.out _ hgr
     clear hK K
     try simp only [Act.put, List.setIfInBounds_toArray, List.set_cons_zero, List.set_cons_succ]
     obtain ⟨e3, f3⟩ := HB3.out _ hgr
     refine wpAnyH_ready (rs := [24]) (by kernel_rfl) (by simp) ?_
     refine AllReadyH.cons rfl (fun K hK => ?_) AllReadyH.nil
     go_simp
     refine hK.out _ _ ?_ (fun hHeld => ?_)
     · exact HS7.out _ _ hgr
     clear hK K
     try simp only [Act.put, List.setIfInBounds_toArray, List.set_cons_zero, List.set_cons_succ]
     refine wpAnyH_done (by kernel_rfl) ?_ _
     go_wp2_with (fail)
     go_end0
     exact ⟨rfl, (HEND.out _ _ hown hgr).2⟩
   · skip
     go_simp
     refine hK.out _ _ ?_ (fun hHeld => ?_)
     · exact HS3.out
     clear hK K
     try simp only [Act.put, List.setIfInBounds_toArray, List.set_cons_zero, List.set_cons_succ]
     refine wpAnyH_take (i := 18) (v := ?v18x30) rfl (by kernel_rfl) (by kernel_rfl) (by kernel_rfl) (fun _ _ _ h => h) (Or.inl ⟨by rfl, ?h18x30⟩) (by assumption) ?r18x30
     case h18x30 => (intro w hSw; (try dsimp only at hSw); first | (go_simp; done) | (go_simp; with_reducible rfl))
     try simp only [Act.put, List.setIfInBounds_toArray, List.set_cons_zero, List.set_cons_succ]
     refine wpAnyH_take (i := 19) (v := ?v19x31) rfl (by kernel_rfl) (by kernel_rfl) (by kernel_rfl) (fun _ _ _ h => h) (Or.inl ⟨by rfl, ?h19x31⟩) (by assumption) ?r19x31
     case h19x31 => (intro w hSw; (try dsimp only at hSw); first | (go_simp; done) | (go_simp; with_reducible rfl))
     try simp only [Act.put, List.setIfInBounds_toArray, List.set_cons_zero, List.set_cons_succ]
     refine wpAnyH_ready (rs := [0, 20]) (by kernel_rfl) (by simp) ?_
     refine AllReadyH.cons rfl (fun K hK => ?_) (AllReadyH.cons rfl (fun K hK => ?_) AllReadyH.nil)
     · skip
       go_simp
       refine hK.out _ _ ?_ (fun hHeld => ?_)
       · exact HS3.out
       clear hK K
       try simp only [Act.put, List.setIfInBounds_toArray, List.set_cons_zero, List.set_cons_succ]
       refine wpAnyH_take (i := 5) (v := ?v5x32) rfl (by kernel_rfl) (by kernel_rfl) (by kernel_rfl) (fun _ _ _ h => h) (Or.inl ⟨by rfl, ?h5x32⟩) (by assumption) ?r5x32
       case h5x32 => (intro w hSw; (try dsimp only at hSw); first | (go_simp; done) | (go_simp; with_reducible rfl))
       try simp only [Act.put, List.setIfInBounds_toArray, List.set_cons_zero, List.set_cons_succ]
       refine wpAnyH_ready (rs := [20]) (by kernel_rfl) (by simp) ?_
       refine AllReadyH.cons rfl (fun K hK => ?_) AllReadyH.nil
       go_simp
       refine hK.out _ _ ?_ (fun hHeld => ?_)
       · exact HS4.out
       clear hK K
       try simp only [Act.put, List.setIfInBounds_toArray, List.set_cons_zero, List.set_cons_succ]
       refine wpAnyH_take (i := 21) (v := ?v21x33) rfl (by kernel_rfl) (by kernel_rfl) (by kernel_rfl) (fun _ _ _ h => h) (Or.inl ⟨by rfl, ?h21x33⟩) (by assumption) ?r21x33
       case h21x33 => (intro w hSw; (try dsimp only at hSw); first | (go_simp; done) | (go_simp; with_reducible rfl))
       try simp only [Act.put, List.setIfInBounds_toArray, List.set_cons_zero, List.set_cons_succ]
       refine wpAnyH_ready (rs := [22]) (by kernel_rfl) (by simp) ?_
       refine AllReadyH.cons rfl (fun K hK => ?_) AllReadyH.nil
       go_simp
       refine hK.out _ _ ?_ (fun hHeld => ?_)
       · exact HS5.out
       clear hK K
       try simp only [Act.put, List.setIfInBounds_toArray, List.set_cons_zero, List.set_cons_succ]
       refine wpAnyH_ready (rs := [23]) (by kernel_rfl) (by simp) ?_
       refine AllReadyH.cons rfl (fun K hK => ?_) AllReadyH.nil
       refine step_append_grows rfl (.tmp 22) (.tmp 39) 24 rfl 26 t0 (.agg #[.int .i64 0, .int .i64 0, .int .i64 0, .int .i64 0, .string ⟨#[]⟩, .slice none 0 0, .slice none 0 0]) 7 96 Tryz.underlying24 hi hz0 hz1 hz2 rfl (by decide) (some ⟨gl, 0, none⟩) n n v1 (by simp [Act.eval, Act.put]) (fun e => by cases e) l1 HOLD.out ⟨W3.heap.size + 1, 0, none⟩ 1 1 (exC (putE s y x) (.slice none 0 0) (.slice (some ⟨W3.heap.size, 0, none⟩) 2 2)) (by simp [Act.eval, Act.put]) rfl HNEW.out HONE.out (by omega) (by unfold maxLen; omega) (by omega) ?_
       intro v' w' hown hgr
       obtain ⟨g', cap', rfl, hg'0, _⟩ := own_form hown (Nat.succ_pos n)
       refine hK.out _ _ ?_ (fun hHeld => ?_)
       · exact HS6.out _ hgr
       clear hK K
       try simp only [Act.put, List.setIfInBounds_toArray, List.set_cons_zero, List.set_cons_succ]
       obtain ⟨e3, f3⟩ := HB3.out _ hgr
       refine wpAnyH_ready (rs := [24]) (by kernel_rfl) (by simp) ?_
       refine AllReadyH.cons rfl (fun K hK => ?_) AllReadyH.nil
       go_simp
       refine hK.out _ _ ?_ (fun hHeld => ?_)
       · exact HS7.out _ _ hgr
       clear hK K
       try simp only [Act.put, List.setIfInBounds_toArray, List.set_cons_zero, List.set_cons_succ]
       refine wpAnyH_done (by kernel_rfl) ?_ _
       go_wp2_with (fail)
       go_end0
       exact ⟨rfl, (HEND.out _ _ hown hgr).2⟩
     · skip
       go_simp
       refine hK.out _ _ ?_ (fun hHeld => ?_)
       · exact HS4.out
       clear hK K
       try simp only [Act.put, List.setIfInBounds_toArray, List.set_cons_zero, List.set_cons_succ]
       refine wpAnyH_take (i := 21) (v := ?v21x34) rfl (by kernel_rfl) (by kernel_rfl) (by kernel_rfl) (fun _ _ _ h => h) (Or.inl ⟨by rfl, ?h21x34⟩) (by assumption) ?r21x34
       case h21x34 => (intro w hSw; (try dsimp only at hSw); first | (go_simp; done) | (go_simp; with_reducible rfl))
       try simp only [Act.put, List.setIfInBounds_toArray, List.set_cons_zero, List.set_cons_succ]
       refine wpAnyH_ready (rs := [0, 22]) (by kernel_rfl) (by simp) ?_
       refine AllReadyH.cons rfl (fun K hK => ?_) (AllReadyH.cons rfl (fun K hK => ?_) AllReadyH.nil)
       · skip
         go_simp
         refine hK.out _ _ ?_ (fun hHeld => ?_)
         · exact HS4.out
         clear hK K
         try simp only [Act.put, List.setIfInBounds_toArray, List.set_cons_zero, List.set_cons_succ]
         refine wpAnyH_take (i := 5) (v := ?v5x35) rfl (by kernel_rfl) (by kernel_rfl) (by kernel_rfl) (fun _ _ _ h => h) (Or.inl ⟨by rfl, ?h5x35⟩) (by assumption) ?r5x35
         case h5x35 => (intro w hSw; (try dsimp only at hSw); first | (go_simp; done) | (go_simp; with_reducible rfl))
         try simp only [Act.put, List.setIfInBounds_toArray, List.set_cons_zero, List.set_cons_succ]
         refine wpAnyH_ready (rs := [22]) (by kernel_rfl) (by simp) ?_
         refine AllReadyH.cons rfl (fun K hK => ?_) AllReadyH.nil
         go_simp
         refine hK.out _ _ ?_ (fun hHeld => ?_)
         · exact HS5.out
         clear hK K
         try simp only [Act.put, List.setIfInBounds_toArray, List.set_cons_zero, List.set_cons_succ]
         refine wpAnyH_ready (rs := [23]) (by kernel_rfl) (by simp) ?_
         refine AllReadyH.cons rfl (fun K hK => ?_) AllReadyH.nil
         refine step_append_grows rfl (.tmp 22) (.tmp 39) 24 rfl 26 t0 (.agg #[.int .i64 0, .int .i64 0, .int .i64 0, .int .i64 0, .string ⟨#[]⟩, .slice none 0 0, .slice none 0 0]) 7 96 Tryz.underlying24 hi hz0 hz1 hz2 rfl (by decide) (some ⟨gl, 0, none⟩) n n v1 (by simp [Act.eval, Act.put]) (fun e => by cases e) l1 HOLD.out ⟨W3.heap.size + 1, 0, none⟩ 1 1 (exC (putE s y x) (.slice none 0 0) (.slice (some ⟨W3.heap.size, 0, none⟩) 2 2)) (by simp [Act.eval, Act.put]) rfl HNEW.out HONE.out (by omega) (by unfold maxLen; omega) (by omega) ?_
         intro v' w' hown hgr
         obtain ⟨g', cap', rfl, hg'0, _⟩ := own_form hown (Nat.succ_pos n)
         refine hK.out _ _ ?_ (fun hHeld => ?_)
         · exact HS6.out _ hgr
         clear hK K
         try simp only [Act.put, List.setIfInBounds_toArray, List.set_cons_zero, List.set_cons_succ]
         obtain ⟨e3, f3⟩ := HB3.out _ hgr
         refine wpAnyH_ready (rs := [24]) (by kernel_rfl) (by simp) ?_
         refine AllReadyH.cons rfl (fun K hK => ?_) AllReadyH.nil
         go_simp
         refine hK.out _ _ ?_ (fun hHeld => ?_)
         · exact HS7.out _ _ hgr
         clear hK K
         try simp only [Act.put, List.setIfInBounds_toArray, List.set_cons_zero, List.set_cons_succ]
         refine wpAnyH_done (by kernel_rfl) ?_ _
         go_wp2_with (fail)
         go_end0
         exact ⟨rfl, (HEND.out _ _ hown hgr).2⟩
       · skip
         go_simp
         refine hK.out _ _ ?_ (fun hHeld => ?_)
         · exact HS5.out
         clear hK K
         try simp only [Act.put, List.setIfInBounds_toArray, List.set_cons_zero, List.set_cons_succ]
         refine wpAnyH_ready (rs := [0]) (by kernel_rfl) (by simp) ?_
         refine AllReadyH.cons rfl (fun K hK => ?_) AllReadyH.nil
         go_simp
         refine hK.out _ _ ?_ (fun hHeld => ?_)
         · exact HS5.out
         clear hK K
         try simp only [Act.put, List.setIfInBounds_toArray, List.set_cons_zero, List.set_cons_succ]
         refine wpAnyH_take (i := 5) (v := ?v5x36) rfl (by kernel_rfl) (by kernel_rfl) (by kernel_rfl) (fun _ _ _ h => h) (Or.inl ⟨by rfl, ?h5x36⟩) (by assumption) ?r5x36
         case h5x36 => (intro w hSw; (try dsimp only at hSw); first | (go_simp; done) | (go_simp; with_reducible rfl))
         try simp only [Act.put, List.setIfInBounds_toArray, List.set_cons_zero, List.set_cons_succ]
         refine wpAnyH_ready (rs := [23]) (by kernel_rfl) (by simp) ?_
         refine AllReadyH.cons rfl (fun K hK => ?_) AllReadyH.nil
         refine step_append_grows rfl (.tmp 22) (.tmp 39) 24 rfl 26 t0 (.agg #[.int .i64 0, .int .i64 0, .int .i64 0, .int .i64 0, .string ⟨#[]⟩, .slice none 0 0, .slice none 0 0]) 7 96 Tryz.underlying24 hi hz0 hz1 hz2 rfl (by decide) (some ⟨gl, 0, none⟩) n n v1 (by simp [Act.eval, Act.put]) (fun e => by cases e) l1 HOLD.out ⟨W3.heap.size + 1, 0, none⟩ 1 1 (exC (putE s y x) (.slice none 0 0) (.slice (some ⟨W3.heap.size, 0, none⟩) 2 2)) (by simp [Act.eval, Act.put]) rfl HNEW.out HONE.out (by omega) (by unfold maxLen; omega) (by omega) ?_
         intro v' w' hown hgr
         obtain ⟨g', cap', rfl, hg'0, _⟩ := own_form hown (Nat.succ_pos n)
         refine hK.out _ _ ?_ (fun hHeld => ?_)
         · exact HS6.out _ hgr
         clear hK K
         try simp only [Act.put, List.setIfInBounds_toArray, List.set_cons_zero, List.set_cons_succ]
         obtain ⟨e3, f3⟩ := HB3.out _ hgr
         refine wpAnyH_ready (rs := [24]) (by kernel_rfl) (by simp) ?_
         refine AllReadyH.cons rfl (fun K hK => ?_) AllReadyH.nil
         go_simp
         refine hK.out _ _ ?_ (fun hHeld => ?_)
         · exact HS7.out _ _ hgr
         clear hK K
         try simp only [Act.put, List.setIfInBounds_toArray, List.set_cons_zero, List.set_cons_succ]
         refine wpAnyH_done (by kernel_rfl) ?_ _
         go_wp2_with (fail)
         go_end0
         exact ⟨rfl, (HEND.out _ _ hown hgr).2⟩
 · skip
   go_simp
   refine hK.out _ _ ?_ (fun hHeld => ?_)
   · exact HS3.out
   clear hK K
   try simp only [Act.put, List.setIfInBounds_toArray, List.set_cons_zero, List.set_cons_succ]
   refine wpAnyH_take (i := 18) (v := ?v18x37) rfl (by kernel_rfl) (by kernel_rfl) (by kernel_rfl) (fun _ _ _ h => h) (Or.inl ⟨by rfl, ?h18x37⟩) (by assumption) ?r18x37
   case h18x37 => (intro w hSw; (try dsimp only at hSw); first | (go_simp; done) | (go_simp; with_reducible rfl))
   try simp only [Act.put, List.setIfInBounds_toArray, List.set_cons_zero, List.set_cons_succ]
   refine wpAnyH_take (i := 19) (v := ?v19x38) rfl (by kernel_rfl) (by kernel_rfl) (by kernel_rfl) (fun _ _ _ h => h) (Or.inl ⟨by rfl, ?h19x38⟩) (by assumption) ?r19x38
   case h19x38 => (intro w hSw; (try dsimp only at hSw); first | (go_simp; done) | (go_simp; with_reducible rfl))
   try simp only [Act.put, List.setIfInBounds_toArray, List.set_cons_zero, List.set_cons_succ]
   refine wpAnyH_ready (rs := [0, 10]) (by kernel_rfl) (by simp) ?_
   refine AllReadyH.cons rfl (fun K hK => ?_) (AllReadyH.cons rfl (fun K hK => ?_) AllReadyH.nil)
   · skip
     go_simp
     refine hK.out _ _ ?_ (fun hHeld => ?_)
     · exact HS3.out
     clear hK K
     try simp only [Act.put, List.setIfInBounds_toArray, List.set_cons_zero, List.set_cons_succ]
     refine wpAnyH_take (i := 5) (v := ?v5x39) rfl (by kernel_rfl) (by kernel_rfl) (by kernel_rfl) (fun _ _ _ h => h) (Or.inl ⟨by rfl, ?h5x39⟩) (by assumption) ?r5x39
     case h5x39 => (intro w hSw; (try dsimp only at hSw); first | (go_simp; done) | (go_simp; with_reducible rfl))
     try simp only [Act.put, List.setIfInBounds_toArray, List.set_cons_zero, List.set_cons_succ]
     refine wpAnyH_ready (rs := [10]) (by kernel_rfl) (by simp) ?_
     refine AllReadyH.cons rfl (fun K hK => ?_) AllReadyH.nil
     go_simp
     refine hK.out _ _ ?_ (fun hHeld => ?_)
     · exact HS3.out
     clear hK K
     try simp only [Act.put, List.setIfInBounds_toArray, List.set_cons_zero, List.set_cons_succ]
     refine wpAnyH_take (i := 13) (v := ?v13x40) rfl (by kernel_rfl) (by kernel_rfl) (by kernel_rfl) (fun _ _ _ h => h) (Or.inl ⟨by rfl, ?h13x40⟩) (by assumption) ?r13x40
     case h13x40 => (intro w hSw; (try dsimp only at hSw); first | (go_simp; done) | (go_simp; with_reducible rfl))
     try simp only [Act.put, List.setIfInBounds_toArray, List.set_cons_zero, List.set_cons_succ]
     refine wpAnyH_take (i := 14) (v := ?v14x41) rfl (by kernel_rfl) (by kernel_rfl) (by kernel_rfl) (fun _ _ _ h => h) (Or.inl ⟨by rfl, ?h14x41⟩) (by assumption) ?r14x41
     case h14x41 => (intro w hSw; (try dsimp only at hSw); first | (go_simp; done) | (go_simp; with_reducible rfl))
     try simp only [Act.put, List.setIfInBounds_toArray, List.set_cons_zero, List.set_cons_succ]
     refine wpAnyH_ready (rs := [20]) (by kernel_rfl) (by simp) ?_
     refine AllReadyH.cons rfl (fun K hK => ?_) AllReadyH.nil
     go_simp
     refine hK.out _ _ ?_ (fun hHeld => ?_)
     · exact HS4.out
     clear hK K
     try simp only [Act.put, List.setIfInBounds_toArray, List.set_cons_zero, List.set_cons_succ]
     refine wpAnyH_take (i := 21) (v := ?v21x42) rfl (by kernel_rfl) (by kernel_rfl) (by kernel_rfl) (fun _ _ _ h => h) (Or.inl ⟨by rfl, ?h21x42⟩) (by assumption) ?r21x42
     case h21x42 => (intro w hSw; (try dsimp only at hSw); first | (go_simp; done) | (go_simp; with_reducible rfl))
     try simp only [Act.put, List.setIfInBounds_toArray, List.set_cons_zero, List.set_cons_succ]
     refine wpAnyH_ready (rs := [22]) (by kernel_rfl) (by simp) ?_
     refine AllReadyH.cons rfl (fun K hK => ?_) AllReadyH.nil
     go_simp
     refine hK.out _ _ ?_ (fun hHeld => ?_)
     · exact HS5.out
     clear hK K
     try simp only [Act.put, List.setIfInBounds_toArray, List.set_cons_zero, List.set_cons_succ]
     refine wpAnyH_ready (rs := [23]) (by kernel_rfl) (by simp) ?_
     refine AllReadyH.cons rfl (fun K hK => ?_) AllReadyH.nil
     refine step_append_grows rfl (.tmp 22) (.tmp 39) 24 rfl 26 t0 (.agg #[.int .i64 0, .int .i64 0, .int .i64 0, .int .i64 0, .string ⟨#[]⟩, .slice none 0 0, .slice none 0 0]) 7 96 Tryz.underlying24 hi hz0 hz1 hz2 rfl (by decide) (some ⟨gl, 0, none⟩) n n v1 (by simp [Act.eval, Act.put]) (fun e => by cases e) l1 HOLD.out ⟨W3.heap.size + 1, 0, none⟩ 1 1 (exC (putE s y x) (.slice none 0 0) (.slice (some ⟨W3.heap.size, 0, none⟩) 2 2)) (by simp [Act.eval, Act.put]) rfl HNEW.out HONE.out (by omega) (by unfold maxLen; omega) (by omega) ?_
     intro v' w' hown hgr
     obtain ⟨g', cap', rfl, hg'0, _⟩ := own_form hown (Nat.succ_pos n)
     refine hK.out _ _ ?_ (fun hHeld => ?_)
     · exact HS6.out _ hgr
     clear hK K
     try simp only [Act.put, List.setIfInBounds_toArray, List.set_cons_zero, List.set_cons_succ]
     obtain ⟨e3, f3⟩ := HB3.out _ hgr
     refine wpAnyH_ready (rs := [24]) (by kernel_rfl) (by simp) ?_
     refine AllReadyH.cons rfl (fun K hK => ?_) AllReadyH.nil
     go_simp
     refine hK.out _ _ ?_ (fun hHeld => ?_)
     · exact HS7.out _ _ hgr
     clear hK K
     try simp only [Act.put, List.setIfInBounds_toArray, List.set_cons_zero, List.set_cons_succ]
     refine wpAnyH_done (by kernel_rfl) ?_ _
     go_wp2_with (fail)
     go_end0
     exact ⟨rfl, (HEND.out _ _ hown hgr).2⟩
   · skip
     go_simp
     refine hK.out _ _ ?_ (fun hHeld => ?_)
     · exact HS3.out
     clear hK K
     try simp only [Act.put, List.setIfInBounds_toArray, List.set_cons_zero, List.set_cons_succ]
     refine wpAnyH_take (i := 13) (v := ?v13x43) rfl (by kernel_rfl) (by kernel_rfl) (by kernel_rfl) (fun _ _ _ h => h) (Or.inl ⟨by rfl, ?h13x43⟩) (by assumption) ?r13x43
     case h13x43 => (intro w hSw; (try dsimp only at hSw); first | (go_simp; done) | (go_simp; with_reducible rfl))
     try simp only [Act.put, List.setIfInBounds_toArray, List.set_cons_zero, List.set_cons_succ]
     refine wpAnyH_take (i := 14) (v := ?v14x44) rfl (by kernel_rfl) (by kernel_rfl) (by kernel_rfl) (fun _ _ _ h => h) (Or.inl ⟨by rfl, ?h14x44⟩) (by assumption) ?r14x44
     case h14x44 => (intro w hSw; (try dsimp only at hSw); first | (go_simp; done) | (go_simp; with_reducible rfl))
     try simp only [Act.put, List.setIfInBounds_toArray, List.set_cons_zero, List.set_cons_succ]
     refine wpAnyH_ready (rs := [0, 20]) (by kernel_rfl) (by simp) ?_
     refine AllReadyH.cons rfl (fun K hK => ?_) (AllReadyH.cons rfl (fun K hK => ?_) AllReadyH.nil)
     · skip
       go_simp
       refine hK.out _ _ ?_ (fun hHeld => ?_)
       · exact HS3.out
       clear hK K
       try simp only [Act.put, List.setIfInBounds_toArray, List.set_cons_zero, List.set_cons_succ]
       refine wpAnyH_take (i := 5) (v := ?v5x45) rfl (by kernel_rfl) (by kernel_rfl) (by kernel_rfl) (fun _ _ _ h => h) (Or.inl ⟨by rfl, ?h5x45⟩) (by assumption) ?r5x45
       case h5x45 => (intro w hSw; (try dsimp only at hSw); first | (go_simp; done) | (go_simp; with_reducible rfl))
       try simp only [Act.put, List.setIfInBounds_toArray, List.set_cons_zero, List.set_cons_succ]
       refine wpAnyH_ready (rs := [20]) (by kernel_rfl) (by simp) ?_
       refine AllReadyH.cons rfl (fun K hK => ?_) AllReadyH.nil
       go_simp
       refine hK.out _ _ ?_ (fun hHeld => ?_)
       · exact HS4.out
       clear hK K
       try simp only [Act.put, List.setIfInBounds_toArray, List.set_cons_zero, List.set_cons_succ]
       refine wpAnyH_take (i := 21) (v := ?v21x46) rfl (by kernel_rfl) (by kernel_rfl) (by kernel_rfl) (fun _ _ _ h => h) (Or.inl ⟨by rfl, ?h21x46⟩) (by assumption) ?r21x46
       case h21x46 => (intro w hSw; (try dsimp only at hSw); first | (go_simp; done) | (go_simp; with_reducible rfl))
       try simp only [Act.put, List.setIfInBounds_toArray, List.set_cons_zero, List.set_cons_succ]
       refine wpAnyH_ready (rs := [22]) (by kernel_rfl) (by simp) ?_
       refine AllReadyH.cons rfl (fun K hK => ?_) AllReadyH.nil
       go_simp
       refine hK.out _ _ ?_ (fun hHeld => ?_)
       · exact HS5.out
       clear hK K
       try simp only [Act.put, List.setIfInBounds_toArray, List.set_cons_zero, List.set_cons_succ]
       refine wpAnyH_ready (rs := [23]) (by kernel_rfl) (by simp) ?_
       refine AllReadyH.cons rfl (fun K hK => ?_) AllReadyH.nil
       refine step_append_grows rfl (.tmp 22) (.tmp 39) 24 rfl 26 t0 (.agg #[.int .i64 0, .int .i64 0, .int .i64 0, .int .i64 0, .string ⟨#[]⟩, .slice none 0 0, .slice none 0 0]) 7 96 Tryz.underlying24 hi hz0 hz1 hz2 rfl (by decide) (some ⟨gl, 0, none⟩) n n v1 (by simp [Act.eval, Act.put]) (fun e => by cases e) l1 HOLD.out ⟨W3.heap.size + 1, 0, none⟩ 1 1 (exC (putE s y x) (.slice none 0 0) (.slice (some ⟨W3.heap.size, 0, none⟩) 2 2)) (by simp [Act.eval, Act.put]) rfl HNEW.out HONE.out (by omega) (by unfold maxLen; omega) (by omega) ?_
       intro v' w' hown hgr
       obtain ⟨g', cap', rfl, hg'0, _⟩ := own_form hown (Nat.succ_pos n)
       refine hK.out _ _ ?_ (fun hHeld => ?_)
       · exact HS6.out _ hgr
       clear hK K
       try simp only [Act.put, List.setIfInBounds_toArray, List.set_cons_zero, List.set_cons_succ]
       obtain ⟨e3, f3⟩ := HB3.out _ hgr
       refine wpAnyH_ready (rs := [24]) (by kernel_rfl) (by simp) ?_
       refine AllReadyH.cons rfl (fun K hK => ?_) AllReadyH.nil
       go_simp
       refine hK.out _ _ ?_ (fun hHeld => ?_)
       · exact HS7.out _ _ hgr
       clear hK K
       try simp only [Act.put, List.setIfInBounds_toArray, List.set_cons_zero, List.set_cons_succ]
       refine wpAnyH_done (by kernel_rfl) ?_ _
       go_wp2_with (fail)
       go_end0
       exact ⟨rfl, (HEND.out _ _ hown hgr).2⟩
     · skip
       go_simp
       refine hK.out _ _ ?_ (fun hHeld => ?_)
       · exact HS4.out
       clear hK K
       try simp only [Act.put, List.setIfInBounds_toArray, List.set_cons_zero, List.set_cons_succ]
       refine wpAnyH_take (i := 21) (v := ?v21x47) rfl (by kernel_rfl) (by kernel_rfl) (by kernel_rfl) (fun _ _ _ h => h) (Or.inl ⟨by rfl, ?h21x47⟩) (by assumption) ?r21x47
       case h21x47 => (intro w hSw; (try dsimp only at hSw); first | (go_simp; done) | (go_simp; with_reducible rfl))
       try simp only [Act.put, List.setIfInBounds_toArray, List.set_cons_zero, List.set_cons_succ]
       refine wpAnyH_ready (rs := [0, 22]) (by kernel_rfl) (by simp) ?_
       refine AllReadyH.cons rfl (fun K hK => ?_) (AllReadyH.cons rfl (fun K hK => ?_) AllReadyH.nil)
       · skip
         go_simp
         refine hK.out _ _ ?_ (fun hHeld => ?_)
         · exact HS4.out
         clear hK K
         try simp only [Act.put, List.setIfInBounds_toArray, List.set_cons_zero, List.set_cons_succ]
         refine wpAnyH_take (i := 5) (v := ?v5x48) rfl (by kernel_rfl) (by kernel_rfl) (by kernel_rfl) (fun _ _ _ h => h) (Or.inl ⟨by rfl, ?h5x48⟩) (by assumption) ?r5x48
         case h5x48 => (intro w hSw; (try dsimp only at hSw); first | (go_simp; done) | (go_simp; with_reducible rfl))
         try simp only [Act.put, List.setIfInBounds_toArray, List.set_cons_zero, List.set_cons_succ]
         refine wpAnyH_ready (rs := [22]) (by kernel_rfl) (by simp) ?_
         refine AllReadyH.cons rfl (fun K hK => ?_) AllReadyH.nil
         go_simp
         refine hK.out _ _ ?_ (fun hHeld => ?_)
         · exact HS5.out
         clear hK K
         try simp only [Act.put, List.setIfInBounds_toArray, List.set_cons_zero, List.set_cons_succ]
         refine wpAnyH_ready (rs := [23]) (by kernel_rfl) (by simp) ?_
         refine AllReadyH.cons rfl (fun K hK => ?_) AllReadyH.nil
         refine step_append_grows rfl (.tmp 22) (.tmp 39) 24 rfl 26 t0 (.agg #[.int .i64 0, .int .i64 0, .int .i64 0, .int .i64 0, .string ⟨#[]⟩, .slice none 0 0, .slice none 0 0]) 7 96 Tryz.underlying24 hi hz0 hz1 hz2 rfl (by decide) (some ⟨gl, 0, none⟩) n n v1 (by simp [Act.eval, Act.put]) (fun e => by cases e) l1 HOLD.out ⟨W3.heap.size + 1, 0, none⟩ 1 1 (exC (putE s y x) (.slice none 0 0) (.slice (some ⟨W3.heap.size, 0, none⟩) 2 2)) (by simp [Act.eval, Act.put]) rfl HNEW.out HONE.out (by omega) (by unfold maxLen; omega) (by omega) ?_
         intro v' w' hown hgr
         obtain ⟨g', cap', rfl, hg'0, _⟩ := own_form hown (Nat.succ_pos n)
         refine hK.out _ _ ?_ (fun hHeld => ?_)
         · exact HS6.out _ hgr
         clear hK K
         try simp only [Act.put, List.setIfInBounds_toArray, List.set_cons_zero, List.set_cons_succ]
         obtain ⟨e3, f3⟩ := HB3.out _ hgr
         refine wpAnyH_ready (rs := [24]) (by kernel_rfl) (by simp) ?_
         refine AllReadyH.cons rfl (fun K hK => ?_) AllReadyH.nil
         go_simp
         refine hK.out _ _ ?_ (fun hHeld => ?_)
         · exact HS7.out _ _ hgr
         clear hK K
         try simp only [Act.put, List.setIfInBounds_toArray, List.set_cons_zero, List.set_cons_succ]
         refine wpAnyH_done (by kernel_rfl) ?_ _
         go_wp2_with (fail)
         go_end0
         exact ⟨rfl, (HEND.out _ _ hown hgr).2⟩
       · skip
         go_simp
         refine hK.out _ _ ?_ (fun hHeld => ?_)
         · exact HS5.out
         clear hK K
         try simp only [Act.put, List.setIfInBounds_toArray, List.set_cons_zero, List.set_cons_succ]
         refine wpAnyH_ready (rs := [0]) (by kernel_rfl) (by simp) ?_
         refine AllReadyH.cons rfl (fun K hK => ?_) AllReadyH.nil
         go_simp
         refine hK.out _ _ ?_ (fun hHeld => ?_)
         · exact HS5.out
         clear hK K
         try simp only [Act.put, List.setIfInBounds_toArray, List.set_cons_zero, List.set_cons_succ]
         refine wpAnyH_take (i := 5) (v := ?v5x49) rfl (by kernel_rfl) (by kernel_rfl) (by kernel_rfl) (fun _ _ _ h => h) (Or.inl ⟨by rfl, ?h5x49⟩) (by assumption) ?r5x49
         case h5x49 => (intro w hSw; (try dsimp only at hSw); first | (go_simp; done) | (go_simp; with_reducible rfl))
         try simp only [Act.put, List.setIfInBounds_toArray, List.set_cons_zero, List.set_cons_succ]
         refine wpAnyH_ready (rs := [23]) (by kernel_rfl) (by simp) ?_
         refine AllReadyH.cons rfl (fun K hK => ?_) AllReadyH.nil
         refine step_append_grows rfl (.tmp 22) (.tmp 39) 24 rfl 26 t0 (.agg #[.int .i64 0, .int .i64 0, .int .i64 0, .int .i64 0, .string ⟨#[]⟩, .slice none 0 0, .slice none 0 0]) 7 96 Tryz.underlying24 hi hz0 hz1 hz2 rfl (by decide) (some ⟨gl, 0, none⟩) n n v1 (by simp [Act.eval, Act.put]) (fun e => by cases e) l1 HOLD.out ⟨W3.heap.size + 1, 0, none⟩ 1 1 (exC (putE s y x) (.slice none 0 0) (.slice (some ⟨W3.heap.size, 0, none⟩) 2 2)) (by simp [Act.eval, Act.put]) rfl HNEW.out HONE.out (by omega) (by unfold maxLen; omega) (by omega) ?_
         intro v' w' hown hgr
         obtain ⟨g', cap', rfl, hg'0, _⟩ := own_form hown (Nat.succ_pos n)
         refine hK.out _ _ ?_ (fun hHeld => ?_)
         · exact HS6.out _ hgr
         clear hK K
         try simp only [Act.put, List.setIfInBounds_toArray, List.set_cons_zero, List.set_cons_succ]
         obtain ⟨e3, f3⟩ := HB3.out _ hgr
         refine wpAnyH_ready (rs := [24]) (by kernel_rfl) (by simp) ?_
         refine AllReadyH.cons rfl (fun K hK => ?_) AllReadyH.nil
         go_simp
         refine hK.out _ _ ?_ (fun hHeld => ?_)
         · exact HS7.out _ _ hgr
         clear hK K
         try simp only [Act.put, List.setIfInBounds_toArray, List.set_cons_zero, List.set_cons_succ]
         refine wpAnyH_done (by kernel_rfl) ?_ _
         go_wp2_with (fail)
         go_end0
         exact ⟨rfl, (HEND.out _ _ hown hgr).2⟩
end
end Go.Proofs.YtmepcmnpmhhiiaaGreatDoor
