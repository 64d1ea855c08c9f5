/- Texts of the proof that ParseExpr holds, part 12; no conditions. -/
import Derived.Test.YtmepcmnpmhhiiaaGreatDoorPE00
import Derived.ProofKit
import Derived.Maps.OwnOps
import Derived.Maps.Views
import Derived.Maps.OwnSet
import Derived.Test.YtmepcmnpmhhiiaaGreatDoorPE04
import Derived.Test.YtmepcmnpmhhiiaaGreatDoorPE11
namespace Go.Proofs.YtmepcmnpmhhiiaaGreatDoor
set_option linter.unusedVariables false
set_option linter.unusedSimpArgs false
set_option maxHeartbeats 8000000
set_option maxRecDepth 100000
section
open Go.RowKit Go.Maps Go.WideMaps Go.WideElems Go.WideShapes
def keyS (s : Txt) : Lit := .string s.data.toList
theorem law_str : Keyed Tryz.prog 9 := string_keyed Tryz.underlying9
theorem key_str {s : Txt} (h : okTxt s) : keyOf Tryz.prog 9 (.string s) = some (keyS s) := keyOf_string_mk Tryz.underlying9 (by unfold okTxt at h; unfold maxLen; omega)
theorem zero_int (w : World) : (zeroValue 3).run Tryz.prog w = .ok (.int .i64 0) w := by kernel_rfl
theorem keyS_inj {a b : Txt} (h : keyS a = keyS b) : a = b := by
 unfold keyS at h
 simp only [Lit.string.injEq] at h
 cases a; cases b
 congr
 exact Array.toList_inj.1 h
end
section
open Go.RowKit Go.Maps Go.WideMaps Go.WideElems Go.WideShapes
def MapF (W : World) (b n : Nat) (f : Txt → Int) : Prop := ∃ D : DataW Unit, W.ownsMap Tryz.prog 9 (plainElem Tryz.prog 3) b n D ∧ ∀ x, D.atKey (keyS x) (.lit (.int .i64 0)) = .lit (.int .i64 (f x))
theorem MapF.start (w : World) : MapF (w.alloc (.map #[] 0)) w.heap.size 0 (fun _ => 0) := ⟨.map [], World.ownsMap_made (H := Unit) w Tryz.prog 9 _, fun x => rfl⟩
theorem MapF.put {W : World} {b n : Nat} {f : Txt → Int} (h : MapF W b n f) (hn : n < 100) {k : Txt} (hk : k.size ≤ 100) {c : Int} (hc : (Lit.int .i64 c).wf = true) :
 ∃ W', (Instr.mapUpdate 98 (.map (some b)) (.string k) (.int .i64 c)).run Tryz.prog W = .ok () W' ∧ MapF W' b (n + 1) (fun x => if x = k then c else f x) ∧ W.grownBy W' (some b) := by
 obtain ⟨D, ho, hf⟩ := h
 have hok : okTxt k := by unfold okTxt; omega
 obtain ⟨W', g1, g2, g3⟩ := ho.update law_str Tryz.underlying98 (by unfold maxLen; omega) (key_str hok) (plainElem_int Tryz.underlying3 hc)
 refine ⟨W', g1, ⟨_, g2, fun x => ?_⟩, g3⟩
 by_cases e : x = k
 · subst e
   simp only [if_true]
   rw [atKey_put_same ho.isMap (by trivial)]
 · simp only []
   rw [if_neg e, atKey_put_other (fun h => e (keyS_inj h)), hf]
theorem MapF.look {W : World} {b n : Nat} {f : Txt → Int} (h : MapF W b n f) {x : Txt} (hx : okTxt x) :
 (Instr.lookup 98 (.map (some b)) (.string x) false).run Tryz.prog W = .ok (.int .i64 (f x)) W := by
 obtain ⟨D, ho, hf⟩ := h
 obtain ⟨c, h1, h2, _⟩ := ho.lookup_int law_str Tryz.underlying98 Tryz.underlying3 (zero_int _) (key_str hx)
 rw [hf] at h2
 simp only [DataW.lit.injEq, Lit.int.injEq, true_and] at h2
 rw [h1, h2]
theorem levels_law (x : Txt) : (if x = (⟨#[37]⟩ : Txt) then (5 : Int) else if x = (⟨#[47]⟩ : Txt) then 5 else if x = (⟨#[42]⟩ : Txt) then 5 else if x = (⟨#[45]⟩ : Txt) then 4 else if x = (⟨#[43]⟩ : Txt) then 4 else
 if x = (⟨#[62, 61]⟩ : Txt) then 3 else if x = (⟨#[62]⟩ : Txt) then 3 else if x = (⟨#[60, 61]⟩ : Txt) then 3 else if x = (⟨#[60]⟩ : Txt) then 3 else if x = (⟨#[33, 61]⟩ : Txt) then 3 else if x = (⟨#[61, 61]⟩ : Txt) then 3 else
 if x = (⟨#[38, 38]⟩ : Txt) then 2 else if x = (⟨#[124, 124]⟩ : Txt) then 1 else 0) = levelT x := by
 by_cases h : x ∈ ([⟨#[37]⟩, ⟨#[47]⟩, ⟨#[42]⟩, ⟨#[45]⟩, ⟨#[43]⟩, ⟨#[62, 61]⟩, ⟨#[62]⟩, ⟨#[60, 61]⟩, ⟨#[60]⟩, ⟨#[33, 61]⟩, ⟨#[61, 61]⟩, ⟨#[38, 38]⟩, ⟨#[124, 124]⟩] : List Txt)
 · simp only [List.mem_cons, List.not_mem_nil, or_false] at h
   rcases h with rfl | rfl | rfl | rfl | rfl | rfl | rfl | rfl | rfl | rfl | rfl | rfl | rfl <;> decide +kernel
 · simp only [List.mem_cons, List.not_mem_nil, or_false, not_or] at h
   obtain ⟨h1, h2, h3, h4, h5, h6, h7, h8, h9, h10, h11, h12, h13⟩ := h
   simp [levelT, h1, h2, h3, h4, h5, h6, h7, h8, h9, h10, h11, h12, h13]
theorem levelOf_calls (s : Txt) (w : World) (hs : okTxt s) : Calls Tryz.prog 26 #[.string s] w fun e w' => e = .returned (.int .i64 (levelT s)) ∧ Below w.heap.size w w' := by
 have hmm := @run_makeMap Tryz.prog
 obtain ⟨W0, e0⟩ : ∃ W0, w.alloc (.map #[] 0) = W0 := ⟨_, rfl⟩
 have m0 : MapF W0 w.heap.size 0 (fun _ => 0) := by rw [← e0]; exact MapF.start w
 have b0 : Below w.heap.size w W0 := by rw [← e0]; exact (Below.refl _ _).alloc (Nat.le_refl _) _
 obtain ⟨W1, u1, m1, g1⟩ := m0.put (by omega) (k := ⟨#[124, 124]⟩) (by decide) (c := 1) (by decide)
 obtain ⟨W2, u2, m2, g2⟩ := m1.put (by omega) (k := ⟨#[38, 38]⟩) (by decide) (c := 2) (by decide)
 obtain ⟨W3, u3, m3, g3⟩ := m2.put (by omega) (k := ⟨#[61, 61]⟩) (by decide) (c := 3) (by decide)
 obtain ⟨W4, u4, m4, g4⟩ := m3.put (by omega) (k := ⟨#[33, 61]⟩) (by decide) (c := 3) (by decide)
 obtain ⟨W5, u5, m5, g5⟩ := m4.put (by omega) (k := ⟨#[60]⟩) (by decide) (c := 3) (by decide)
 obtain ⟨W6, u6, m6, g6⟩ := m5.put (by omega) (k := ⟨#[60, 61]⟩) (by decide) (c := 3) (by decide)
 obtain ⟨W7, u7, m7, g7⟩ := m6.put (by omega) (k := ⟨#[62]⟩) (by decide) (c := 3) (by decide)
 obtain ⟨W8, u8, m8, g8⟩ := m7.put (by omega) (k := ⟨#[62, 61]⟩) (by decide) (c := 3) (by decide)
 obtain ⟨W9, u9, m9, g9⟩ := m8.put (by omega) (k := ⟨#[43]⟩) (by decide) (c := 4) (by decide)
 obtain ⟨W10, u10, m10, g10⟩ := m9.put (by omega) (k := ⟨#[45]⟩) (by decide) (c := 4) (by decide)
 obtain ⟨W11, u11, m11, g11⟩ := m10.put (by omega) (k := ⟨#[42]⟩) (by decide) (c := 5) (by decide)
 obtain ⟨W12, u12, m12, g12⟩ := m11.put (by omega) (k := ⟨#[47]⟩) (by decide) (c := 5) (by decide)
 obtain ⟨W13, u13, m13, g13⟩ := m12.put (by omega) (k := ⟨#[37]⟩) (by decide) (c := 5) (by decide)
 have hlook : (Instr.lookup 98 (.map (some w.heap.size)) (.string s) false).run Tryz.prog W13 = .ok (.int .i64 (levelT s)) W13 := by
  rw [← levels_law s]
  exact m13.look hs
 have gall := (((((((((((g1.trans g2).trans g3).trans g4).trans g5).trans g6).trans g7).trans g8).trans g9).trans g10).trans g11).trans g12).trans g13
 have HB : Hid (Below w.heap.size w W13) := ⟨gall.os.trans b0.os, gall.tape.trans b0.tape, gall.output.trans b0.output, Nat.le_trans b0.size gall.size, fun i hi => (gall.block i (Nat.lt_of_lt_of_le hi b0.size) (by simp; omega)).trans (b0.block i hi)⟩
 clear m0 m1 m2 m3 m4 m5 m6 m7 m8 m9 m10 m11 m12 m13 g1 g2 g3 g4 g5 g6 g7 g8 g9 g10 g11 g12 g13 gall b0
 generalize levelT s = res at *
 go_enter Tryz.func26, Tryz.ntmps26
 go_wp2_with (fail)
 go_ret
 exact ⟨rfl, HB.out⟩
end
section
open Go.RowKit
theorem wp_region_clsW {P : Program} {id : Nat} {Q : Exit → Act → World → Prop} {a : Act} {w : World} {l : List Oper} (C : World → Prop) (hm : P.follows .mixedOrders = true) (hB : Region.lexB .any l.toArray = true) (hC : C w.drew)
 (h : wpQuiet P l.toArray C (fun a' => ∀ w', C w' → Q .normal a' w') l a) : (Code.region id l.toArray true).wp P Q a w :=
 wp_region_quiet (C := C) hm hB hC (by simpa using h)
def mu (n : Nat) : TS → Nat
 | .go k => n - k + 1
 | .stop _ _ => 0
theorem tight_len : ∀ {ss : List Tok} (n : Nat), Tight ss → (∀ s ∈ ss, n ≤ ix s) → ss.length + n ≤ 5 + (if ss = [] then n else 0)
 | [], n, _, _ => by simp
 | s :: ss, n, h, hn => by
   have h1 := tight_len (ss := ss) (ix s + 1) h.2.2 (fun t ht => h.2.1 t ht)
   have h2 := hn s (by simp)
   have h3 := h.1
   simp only [List.length_cons, List.cons_ne_nil, if_false]
   split at h1
   · rename_i e
     subst e
     simp at h1 ⊢
     omega
   · omega
theorem tight_five {ss : List Tok} (h : Tight ss) : ss.length ≤ 5 := by
 have := tight_len 0 h (fun _ _ => Nat.zero_le _)
 split at this <;> omega
def sevO (w : World) (n o : Nat) (a b c d e f g : Value) : World := ((((((w.setCell ⟨n, o, none⟩ a).setCell ⟨n, o + 1, none⟩ b).setCell ⟨n, o + 2, none⟩ c).setCell ⟨n, o + 3, none⟩ d).setCell ⟨n, o + 4, none⟩ e).setCell ⟨n, o + 5, none⟩ f).setCell ⟨n, o + 6, none⟩ g
section
variable {w w0 : World} {n o : Nat} {a b c d e f g : Value}
theorem sevO_heap {i : Nat} (h : i ≠ n) : (sevO w n o a b c d e f g).heap[i]? = w.heap[i]? := by
 unfold sevO
 rw [Below.heap_setCell _ _ _ _ (by simpa using h), Below.heap_setCell _ _ _ _ (by simpa using h), Below.heap_setCell _ _ _ _ (by simpa using h), Below.heap_setCell _ _ _ _ (by simpa using h), Below.heap_setCell _ _ _ _ (by simpa using h), Below.heap_setCell _ _ _ _ (by simpa using h), Below.heap_setCell _ _ _ _ (by simpa using h)]
theorem sevO_size : (sevO w n o a b c d e f g).heap.size = w.heap.size := by
 unfold sevO
 simp [World.setCell]
theorem sevO_aside {B : Nat} (ha : Aside1 B w0 w) (hn : w0.heap.size ≤ n) : Aside1 B w0 (sevO w n o a b c d e f g) := by
 unfold sevO
 exact aside_set_new (aside_set_new (aside_set_new (aside_set_new (aside_set_new (aside_set_new (aside_set_new ha hn _) hn _) hn _) hn _) hn _) hn _) hn _
theorem set_at {α : Type} {l zz : List α} {m : Nat} (h : l.length = m) (i : Nat) (u : α) : (l ++ zz).set (m + i) u = l ++ zz.set i u := by
 subst h
 rw [List.set_append_right _ _ (by omega)]
 congr 2
 omega
theorem sevO_own {base : Nat} {t : TypeId} {m cap : Nat} {vals : List Value} {z0 z1 z2 z3 z4 z5 z6 : Value} (h : w.ownsRow base t 7 (.slice (some ⟨n, 0, none⟩) (m + 1) cap) (m + 1) (vals ++ [z0, z1, z2, z3, z4, z5, z6])) :
 (sevO w n (m * 7) a b c d e f g).ownsRow base t 7 (.slice (some ⟨n, 0, none⟩) (m + 1) cap) (m + 1) (vals ++ [a, b, c, d, e, f, g]) := by
 have hl : vals.length = m * 7 := by
  have := h.1
  simp at this
  omega
 have h1 := own_set h (m * 7 + 0) a (by omega)
 rw [set_at hl] at h1
 have h2 := own_set h1 (m * 7 + 1) b (by omega)
 rw [set_at hl] at h2
 have h3 := own_set h2 (m * 7 + 2) c (by omega)
 rw [set_at hl] at h3
 have h4 := own_set h3 (m * 7 + 3) d (by omega)
 rw [set_at hl] at h4
 have h5 := own_set h4 (m * 7 + 4) e (by omega)
 rw [set_at hl] at h5
 have h6 := own_set h5 (m * 7 + 5) f (by omega)
 rw [set_at hl] at h6
 have h7 := own_set h6 (m * 7 + 6) g (by omega)
 rw [set_at hl] at h7
 exact h7
end
section
variable {w wo : World} {B : Nat} {T : List Tok} {E : Int} {tv : Value} {bl al n0 b3 b4 : Nat} {lv sv : Value} {xs : List Ex} {ss : List Tok} {t : TS}
structure SI (w wo : World) (B : Nat) (T : List Tok) (E : Int) (tv : Value) (bl al n0 b3 b4 : Nat) (s0 : TS) (prim : Nat → Rs Ex) (x : Ex) (ls : List Ex) (ss : List Tok) (t : TS) (lv sv : Value) : Prop where
 ei : EI w wo B T E tv bl al n0 b3 b4 lv sv (ls.reverse ++ [x]) ss.reverse t
 goes : Goes s0 (exprL T prim 5) t (fun k => fin T prim 0 x ls ss k)
 len : ls.length = ss.length
 tight : Tight ss
 ok : ∀ s ∈ ss, okTxt s.2.2
theorem SI.below {s0 : TS} {prim : Nat → Rs Ex} {x : Ex} {ls : List Ex} {wn : World} (h : SI w wo B T E tv bl al n0 b3 b4 s0 prim x ls ss t lv sv) (hb : Below wo.heap.size wo wn) : SI w wn B T E tv bl al n0 b3 b4 s0 prim x ls ss t lv sv := ⟨h.ei.below hb, h.goes, h.len, h.tight, h.ok⟩
theorem SI.put {s0 : TS} {prim : Nat → Rs Ex} {x : Ex} {ls : List Ex} (h : SI w wo B T E tv bl al n0 b3 b4 s0 prim x ls ss t lv sv) (htk : Toks (mask B w) T tv) (hne : ss ≠ []) (hn : ∀ s ss', ss = s :: ss' → ∀ k, t = .go k → ix s ≤ nx T k) :
 Calls Tryz.prog 147 #[.pointer (some ⟨b3, 0, none⟩), .pointer (some ⟨b4, 0, none⟩)] wo fun e w' => e = .returned (.tuple #[]) ∧ ∃ x' ls' ss' lv' sv', ss'.length + 1 = ss.length ∧ SI w w' B T E tv bl al n0 b3 b4 s0 prim x' ls' ss' t lv' sv' ∧ wo.heap.size ≤ w'.heap.size ∧ ∀ b, b < wo.heap.size → b ≠ b3 → b ≠ b4 → w'.heap[b]? = wo.heap[b]? := by
 obtain ⟨hei, hg, hlen, ht, hok⟩ := h
 cases ss with
 | nil => exact absurd rfl hne
 | cons s ss =>
   cases ls with
   | nil => simp at hlen
   | cons y ls =>
     have hlen : ls.length = ss.length := by simpa using hlen
     have h5 := tight_five ht
     have e1 : (y :: ls).reverse ++ [x] = ls.reverse ++ [y, x] := by simp
     have e2 : (s :: ss).reverse = ss.reverse ++ [s] := by simp
     rw [e1, e2] at hei
     refine (put_calls htk (by simp only [List.length_reverse, List.length_cons] at h5 ⊢; omega) hei).mono ?_
     rintro e w' ⟨rfl, ha, hre, lv', sv', he⟩
     have hsz : wo.heap.size ≤ w'.heap.size := by
      have h1 := he.c3.lt
      rcases Nat.lt_or_ge w'.heap.size wo.heap.size with h2 | h2
      · have h3 := hei.c3.lt
        have h4 := hei.c4.lt
        have h5 := he.c4.lt
        have h6 := hre w'.heap.size h2 (by omega) (by omega)
        rw [Array.getElem?_eq_none (Nat.le_refl _)] at h6
        have := Array.getElem?_eq_none_iff.1 h6.symm
        omega
      · exact h2
     exact ⟨rfl, putE s y x, ls, ss, lv', sv', by simp, ⟨he, hg.turn fun j e => (fin_put hlen ht (hn s ss rfl j e)).symm, hlen, ht.2.2, fun u hu => hok u (List.mem_cons_of_mem _ hu)⟩, hsz, hre⟩
theorem EI.pushS {W w5 : World} {v5 : Value} {tok : Tok} (h : EI w W B T E tv bl al n0 b3 b4 lv sv xs ss t) (htk : Toks (mask B w) T tv) (hown : w5.ownsRow n0 153 3 v5 (ss.length + 1) (tksC ss ++ tkC tok)) (hg : W.grownBy w5 sv.ownBlock) (hv : v5.ownBlock = sv.ownBlock ∨ v5.ownBlock = some W.heap.size) :
 EI w (w5.setCell ⟨b4, 0, none⟩ v5) B T E tv bl al n0 b3 b4 lv v5 xs (ss ++ [tok]) t := by
 obtain ⟨hB0, hw0, hn3, hn4, hn34⟩ := h.num
 obtain ⟨vals, hlo, hrows⟩ := h.lown
 have hso := h.sown
 have c3lt := h.c3.lt
 have c4lt := h.c4.lt
 have hsg : ∀ g, sv.ownBlock = some g → n0 ≤ g := fun g e => (hso.lt g e).1
 have hA5 : Aside1 B w w5 := aside_grown h.aside hg hsg hw0
 have hA6 : Aside1 B w (w5.setCell ⟨b4, 0, none⟩ v5) := aside_set_new hA5 (by omega) _
 have hR := (Txr.grown htk h.rdr hB0 hA5 hg hsg).set htk (by omega) hA6
 have hrest : ∀ b, b < W.heap.size → sv.ownBlock ≠ some b → b ≠ b4 → (w5.setCell ⟨b4, 0, none⟩ v5).heap[b]? = W.heap[b]? := fun b hb h1 h2 => by
  rw [Below.heap_setCell _ _ _ _ (by simpa using h2)]
  exact hg.block b hb (fun e => h1 e.symm)
 have hsz : W.heap.size ≤ (w5.setCell ⟨b4, 0, none⟩ v5).heap.size := by simp [World.setCell]; exact hg.size
 refine ⟨hR, hA6, ⟨vals, own_move hlo fun g e => hrest g (hlo.lt g e).2 (h.apart g e) (fun e2 => h.far.2.1 (by rw [e, e2])), rows_to hsz (fun b hb hp => ?_) hrows⟩, ?_, ?_, ?_, ?_, ?_, h.num⟩
 · obtain ⟨p1, p2, p3, p4, p5⟩ := prv_no.1 hp
   refine ⟨prv_no.2 ⟨p1, p2, p3, p4, fun e => ?_⟩, hrest b hb p5 p3⟩
   rcases hv with hv | hv
   · rw [hv] at e; exact p5 e
   · rw [hv] at e; simp at e; omega
 · rw [tksC_snoc]
   have : (ss ++ [tok]).length = ss.length + 1 := by simp
   rw [this]
   exact own_move hown fun g e => Below.heap_setCell _ _ _ _ (by
    simp
    rintro rfl
    rcases hv with hv | hv
    · rw [hv] at e; exact h.far.2.2.2 e
    · rw [hv] at e; simp at e; omega)
 · refine Blk.other ?_ (fun e => hn34 e) _ _
   exact (hg.block b3 c3lt (fun e => h.far.2.2.1 e.symm)).trans h.c3
 · have h1 : Blk w5 b4 [sv] 79 := (hg.block b4 c4lt (fun e => h.far.2.2.2 e.symm)).trans h.c4
   exact h1.set 0 v5
 · refine ⟨h.far.1, h.far.2.1, fun e => ?_, fun e => ?_⟩
   · rcases hv with hv | hv
     · rw [hv] at e; exact h.far.2.2.1 e
     · rw [hv] at e; simp at e; omega
   · rcases hv with hv | hv
     · rw [hv] at e; exact h.far.2.2.2 e
     · rw [hv] at e; simp at e; omega
 · intro g e e2
   rcases hv with hv | hv
   · rw [hv] at e2; exact h.apart g e e2
   · rw [hv] at e2; simp at e2; have := (hlo.lt g e).2; omega
theorem EI.pushL {W W' : World} {v5 : Value} {vals us : List Value} {z : Ex} (h : EI w W B T E tv bl al n0 b3 b4 lv sv xs ss t) (htk : Toks (mask B w) T tv) (hlo : W.ownsRow n0 26 7 lv xs.length vals) (hrows : Rows exE 7 (hide (prv n0 b3 b4 lv sv) W) xs vals) (hz : exE (hide (prv n0 b3 b4 lv sv) W) z us) (hus : us.length = 7)
 (hA : Aside1 B w W') (hsz : W.heap.size ≤ W'.heap.size) (hrest : ∀ b, b < W.heap.size → lv.ownBlock ≠ some b → b ≠ b3 → W'.heap[b]? = W.heap[b]?) (hown : W'.ownsRow n0 26 7 v5 (xs.length + 1) (vals ++ us)) (hc3 : Blk W' b3 [v5] 24) (hv : v5.ownBlock = lv.ownBlock ∨ v5.ownBlock = some W.heap.size) :
 EI w W' B T E tv bl al n0 b3 b4 v5 sv (xs ++ [z]) ss t := by
 obtain ⟨hB0, hw0, hn3, hn4, hn34⟩ := h.num
 have hso := h.sown
 have c3lt := h.c3.lt
 have c4lt := h.c4.lt
 have hBl : lv.ownBlock ≠ some B := fun e => by have := (hlo.lt B e).1; omega
 have hq : ∀ b, b < W.heap.size → prv n0 b3 b4 lv sv b = false → prv n0 b3 b4 v5 sv b = false ∧ W'.heap[b]? = W.heap[b]? := fun b hb hp => by
  obtain ⟨p1, p2, p3, p4, p5⟩ := prv_no.1 hp
  refine ⟨prv_no.2 ⟨p1, p2, p3, fun e => ?_, p5⟩, hrest b hb p4 p2⟩
  rcases hv with hv | hv
  · rw [hv] at e; exact p4 e
  · rw [hv] at e; simp at e; omega
 refine ⟨⟨by rw [hrest B h.rdr.lt hBl (by omega)]; exact h.rdr.blk, htk.stays hA.keeps, h.rdr.fine⟩, hA, ⟨vals ++ us, by simpa using hown, Rows.append (rows_to hsz hq hrows) (.one (exE_stays _ _ _ _ (keeps_hide hsz hq) hz) hus)⟩, own_move hso fun g e => hrest g (hso.lt g e).2 (fun e2 => h.apart g e2 e) (fun e2 => h.far.2.2.1 (by rw [e, e2])), hc3, (hrest b4 c4lt h.far.2.1 (fun e => hn34 e.symm)).trans h.c4, ?_, ?_, h.num⟩
 · refine ⟨fun e => ?_, fun e => ?_, h.far.2.2⟩
   · rcases hv with hv | hv
     · rw [hv] at e; exact h.far.1 e
     · rw [hv] at e; simp at e; omega
   · rcases hv with hv | hv
     · rw [hv] at e; exact h.far.2.1 e
     · rw [hv] at e; simp at e; omega
 · intro g e e2
   rcases hv with hv | hv
   · rw [hv] at e; exact h.apart g e e2
   · rw [hv] at e; simp at e; have := (hso.lt g e2).2; omega
theorem EI.pushZ {V wE W' : World} {g0 cap : Nat} {vals : List Value} {a b c d e f g z0 z1 z2 z3 z4 z5 z6 : Value} {z : Ex} (h : EI w V B T E tv bl al n0 b3 b4 lv sv xs ss t) (htk : Toks (mask B w) T tv) (hlo : V.ownsRow n0 26 7 lv xs.length vals) (hrows : Rows exE 7 (hide (prv n0 b3 b4 lv sv) V) xs vals) (hz : exE (hide (prv n0 b3 b4 lv sv) V) z [a, b, c, d, e, f, g])
 (hown : wE.ownsRow n0 26 7 (.slice (some ⟨g0, 0, none⟩) (xs.length + 1) cap) (xs.length + 1) (vals ++ [z0, z1, z2, z3, z4, z5, z6])) (hg : V.grownBy wE lv.ownBlock) (hat : lv.ownBlock = some g0 ∨ g0 = V.heap.size)
 (hW : W' = (sevO wE g0 (xs.length * 7) a b c d e f g).setCell ⟨b3, 0, none⟩ (.slice (some ⟨g0, 0, none⟩) (xs.length + 1) cap) ∨ W' = sevO (wE.setCell ⟨b3, 0, none⟩ (.slice (some ⟨g0, 0, none⟩) (xs.length + 1) cap)) g0 (xs.length * 7) a b c d e f g) :
 EI w W' B T E tv bl al n0 b3 b4 (.slice (some ⟨g0, 0, none⟩) (xs.length + 1) cap) sv (xs ++ [z]) ss t := by
 obtain ⟨hB0, hw0, hn3, hn4, hn34⟩ := h.num
 have c3lt := h.c3.lt
 have hg3 : g0 ≠ b3 := fun e => by
  rcases hat with e2 | e2
  · exact h.far.1 (by rw [e2, e])
  · omega
 have hg0 : n0 ≤ g0 := by
  rcases hat with e2 | e2
  · exact (hlo.lt g0 e2).1
  · omega
 have hsg : ∀ g, lv.ownBlock = some g → n0 ≤ g := fun g e => (hlo.lt g e).1
 have hA5 : Aside1 B w wE := aside_grown h.aside hg hsg hw0
 have hc3E : Blk wE b3 [lv] 24 := (hg.block b3 c3lt (fun e => h.far.1 e.symm)).trans h.c3
 have key : W'.heap.size = wE.heap.size ∧ (∀ i, i ≠ g0 → i ≠ b3 → W'.heap[i]? = wE.heap[i]?) ∧ Aside1 B w W' ∧ Blk W' b3 [.slice (some ⟨g0, 0, none⟩) (xs.length + 1) cap] 24 ∧ W'.ownsRow n0 26 7 (.slice (some ⟨g0, 0, none⟩) (xs.length + 1) cap) (xs.length + 1) (vals ++ [a, b, c, d, e, f, g]) := by
  rcases hW with rfl | rfl
  · refine ⟨?_, fun i h1 h2 => ?_, aside_set_new (sevO_aside hA5 (by omega)) (by omega) _, ?_, ?_⟩
    · simp only [World.setCell, Array.size_modify]; exact sevO_size
    · rw [Below.heap_setCell _ _ _ _ (by simpa using h2)]
      exact sevO_heap h1
    · have h1 : Blk (sevO wE g0 (xs.length * 7) a b c d e f g) b3 [lv] 24 := (sevO_heap (fun e => hg3 e.symm)).trans hc3E
      exact h1.set 0 _
    · exact own_move (sevO_own hown) fun g e => Below.heap_setCell _ _ _ _ (by
       simp [Value.ownBlock] at e
       simp
       omega)
  · refine ⟨?_, fun i h1 h2 => ?_, sevO_aside (aside_set_new hA5 (by omega) _) (by omega), ?_, ?_⟩
    · rw [sevO_size]; simp [World.setCell]
    · rw [sevO_heap h1, Below.heap_setCell _ _ _ _ (by simpa using h2)]
    · exact (sevO_heap (fun e => hg3 e.symm)).trans (hc3E.set 0 _)
    · exact sevO_own (own_move hown fun g e => Below.heap_setCell _ _ _ _ (by
       simp [Value.ownBlock] at e
       simp
       omega))
 obtain ⟨k1, k2, k3, k4, k5⟩ := key
 refine h.pushL htk hlo hrows hz rfl k3 (by rw [k1]; exact hg.size) (fun i hi h1 h2 => ?_) k5 k4 ?_
 · rw [k2 i (fun e => ?_) h2]
   · exact hg.block i hi (fun e => h1 e.symm)
   · rcases hat with e2 | e2
     · exact h1 (by rw [e2, e])
     · omega
 · rcases hat with e2 | e2
   · exact .inl (by rw [e2]; rfl)
   · exact .inr (by rw [e2]; rfl)
theorem EI.far_new {W : World} (h : EI w W B T E tv bl al n0 b3 b4 lv sv xs ss t) {b : Nat} (hb : W.heap.size ≤ b) : prv n0 b3 b4 lv sv b = false := by
 have h3 := h.c3.lt
 have h4 := h.c4.lt
 obtain ⟨vals, hlo, _⟩ := h.lown
 have := h.num
 exact prv_no.2 ⟨by omega, by omega, by omega, fun e => by have := (hlo.lt b e).2; omega, fun e => by have := (h.sown.lt b e).2; omega⟩
theorem EI.seen {W wA V : World} {z : Ex} {us : List Value} (h : EI w W B T E tv bl al n0 b3 b4 lv sv xs ss t) {m : Nat} (hm : W.heap.size ≤ m) (hz : exE (since m wA) z us) (hb : Below wA.heap.size wA V) : exE (hide (prv n0 b3 b4 lv sv) V) z us :=
 exE_stays _ _ _ _ (keeps_hide hb.size fun b hb1 hp => ⟨h.far_new (by simp at hp; omega), hb.block b hb1⟩) hz
theorem mu_run {prim : Nat → Rs Ex} (hm : Mono prim) {n k : Nat} (hk : k < n) : mu n ((TS.go (k + 1)).run prim) < mu n (.go k) := by
 cases hp : prim (k + 1) with
 | bad c a =>
   have e : (TS.go (k + 1)).run prim = .stop c a := by simp only [TS.run, hp]
   rw [e]
   show 0 < n - k + 1
   omega
 | ok y k' =>
   have := hm _ _ _ hp
   have e : (TS.go (k + 1)).run prim = .go k' := by simp only [TS.run, hp]
   rw [e]
   show n - k' + 1 < n - k + 1
   omega
theorem SI.pushZ {s0 : TS} {prim : Nat → Rs Ex} {x z : Ex} {ls : List Ex} {k n : Nat} {tk : Tok} {w7 V wE W' : World} {sv0 : Value} {g0 cap : Nat} {vals : List Value} {a b c d e f g z0 z1 z2 z3 z4 z5 z6 : Value} (hS : SI w w7 B T E tv bl al n0 b3 b4 s0 prim x ls ss (.go k) lv sv0) (hm : Mono prim) (hkt : tkNext T k = tk) (h4 : (tkNext T k).1 = 4 ∧ 0 < levelT (tkNext T k).2.2) (hl : nx T k < nextIx ss) (hti : Tight (tkNext T k :: ss)) (h5 : nextIx ss ≤ 5) (hok : okTxt tk.2.2) (hn : ls.length + 1 = n)
 (hE : EI w V B T E tv bl al n0 b3 b4 lv sv (ls.reverse ++ [x]) (ss.reverse ++ [tk]) ((TS.go (k + 1)).run prim)) (htk : Toks (mask B w) T tv) (hlo : V.ownsRow n0 26 7 lv n vals) (hrows : Rows exE 7 (hide (prv n0 b3 b4 lv sv) V) (ls.reverse ++ [x]) vals) (hz : exE (hide (prv n0 b3 b4 lv sv) V) z [a, b, c, d, e, f, g]) (hte : (TS.go (k + 1)).tells prim z)
 (hown : wE.ownsRow n0 26 7 (.slice (some ⟨g0, 0, none⟩) (n + 1) cap) (n + 1) (vals ++ [z0, z1, z2, z3, z4, z5, z6])) (hg : V.grownBy wE lv.ownBlock) (hat : lv.ownBlock = some g0 ∨ g0 = V.heap.size)
 (hW : W' = (sevO wE g0 (n * 7) a b c d e f g).setCell ⟨b3, 0, none⟩ (.slice (some ⟨g0, 0, none⟩) (n + 1) cap) ∨ W' = sevO (wE.setCell ⟨b3, 0, none⟩ (.slice (some ⟨g0, 0, none⟩) (n + 1) cap)) g0 (n * 7) a b c d e f g) :
 SI w W' B T E tv bl al n0 b3 b4 s0 prim z (x :: ls) (tk :: ss) ((TS.go (k + 1)).run prim) (.slice (some ⟨g0, 0, none⟩) (n + 1) cap) sv := by
 have e1 : (ls.reverse ++ [x]).length = n := by simp [hn]
 have e2 : (x :: ls).reverse ++ [z] = (ls.reverse ++ [x]) ++ [z] := by simp
 have e3 : (tk :: ss).reverse = ss.reverse ++ [tk] := by simp
 subst e1
 refine ⟨by rw [e2, e3]; exact hE.pushZ htk hlo hrows hz hown hg hat hW, ?_, by simp [hS.len], by rw [← hkt]; exact hti, fun u hu => ?_⟩
 · have h1 : Goes s0 (exprL T prim 5) (.go k) fun j => (fun j => (prim j).bind fun y k' => fin T prim 0 y (x :: ls) (tk :: ss) k') (j + 1) := hS.goes.turn fun j ej => by
    cases ej
    rw [← hkt]
    exact (fin_push hm hS.len h4.1 h4.2 hl h5).symm
   exact (h1.next (A := fun j => (prim j).bind fun y k' => fin T prim 0 y (x :: ls) (tk :: ss) k')).step hte
 · rcases List.mem_cons.1 hu with rfl | hu
   · exact hok
   · exact hS.ok u hu
end
end
end Go.Proofs.YtmepcmnpmhhiiaaGreatDoor
