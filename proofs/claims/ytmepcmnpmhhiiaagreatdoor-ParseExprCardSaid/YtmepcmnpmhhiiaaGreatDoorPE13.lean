/- Texts of the proof that ParseExpr holds, part 13; no conditions. -/
import Derived.Test.YtmepcmnpmhhiiaaGreatDoorPE12
namespace Go.Proofs.YtmepcmnpmhhiiaaGreatDoor
set_option linter.unusedVariables false
set_option linter.unusedSimpArgs false
set_option maxHeartbeats 8000000
set_option maxRecDepth 100000
section
open Go.RowKit
def sgnB (t : Tok) : Bool := (t.1 == 4) && !(levelT t.2.2 == 0)
theorem sgn_no {T : List Tok} {k : Nat} (h : sgnB (tkNext T k) = false) : nx T k = 5 := by
 unfold sgnB at h
 unfold nx
 split
 · rename_i h4
   rw [h4] at h
   have : levelT (tkNext T k).2.2 = 0 := by simpa using h
   rw [this]
   rfl
 · rfl
theorem sgn_yes {T : List Tok} {t : TS} (h : sgnB (tkNext T (t.k T.length)) = true) : ∃ k, t = .go k ∧ (tkNext T k).1 = 4 ∧ 0 < levelT (tkNext T k).2.2 := by
 cases t with
 | stop c a =>
   unfold sgnB at h
   simp only [TS.k] at h
   rw [tkNext_ge (by omega)] at h
   cases h
 | go k =>
   unfold sgnB at h
   simp only [TS.k, Bool.and_eq_true, beq_iff_eq, Bool.not_eq_true', beq_eq_false_iff_ne, ne_eq] at h
   have := level_range (tkNext T k).2.2
   exact ⟨k, rfl, h.1, by omega⟩
theorem SI.same {w wo : World} {B : Nat} {T : List Tok} {E : Int} {tv : Value} {bl al n0 b3 b4 : Nat} {s0 : TS} {prim : Nat → Rs Ex} {x : Ex} {ls : List Ex} {ss : List Tok} {t : TS} {lv sv : Value} (h : SI w wo B T E tv bl al n0 b3 b4 s0 prim x ls ss t lv sv) : ∃ ps cs pl cl, sv = .slice ps ss.length cs ∧ lv = .slice pl (ls.length + 1) cl ∧
 wo.cell? ⟨b4, 0, none⟩ = some (.slice ps ss.length cs) ∧ wo.cell? ⟨b3, 0, none⟩ = some (.slice pl (ls.length + 1) cl) := by
 obtain ⟨vals, h1, _⟩ := h.ei.lown
 have h2 := h.ei.sown
 have e1 : (ls.reverse ++ [x]).length = ls.length + 1 := by simp
 have e2 : ss.reverse.length = ss.length := by simp
 rw [e1] at h1
 rw [e2] at h2
 have c3 := h.ei.c3.cell 0
 have c4 := h.ei.c4.cell 0
 simp only [List.getElem?_cons_zero] at c3 c4
 rcases h1.2 with ⟨e, e0⟩ | ⟨g, cap, cur, rfl, _⟩
 · omega
 · rcases h2.2 with ⟨rfl, e⟩ | ⟨g', cap', cur', rfl, _⟩
   · exact ⟨none, 0, _, cap, by rw [e], rfl, by rw [c4, e], c3⟩
   · exact ⟨_, cap', _, cap, rfl, rfl, c4, c3⟩
theorem own_tail {w : World} {base : Nat} {t : TypeId} {n m cap : Nat} {vals : List Value} {z0 z1 z2 z3 z4 z5 z6 : Value} (h : w.ownsRow base t 7 (.slice (some ⟨n, 0, none⟩) (m + 1) cap) (m + 1) (vals ++ [z0, z1, z2, z3, z4, z5, z6])) :
 w.cell? ⟨n, m * 7, none⟩ = some z0 ∧ w.cell? ⟨n, m * 7 + 1, none⟩ = some z1 ∧ w.cell? ⟨n, m * 7 + 2, none⟩ = some z2 ∧ w.cell? ⟨n, m * 7 + 3, none⟩ = some z3 ∧ w.cell? ⟨n, m * 7 + 4, none⟩ = some z4 ∧ w.cell? ⟨n, m * 7 + 5, none⟩ = some z5 ∧ w.cell? ⟨n, m * 7 + 6, none⟩ = some z6 := by
 have hl : vals.length = m * 7 := by
  have := h.1
  simp at this
  omega
 obtain ⟨g, cap', hv, _, _, _, _, hc⟩ := own_form h (Nat.succ_pos m)
 obtain ⟨rfl, rfl⟩ : n = g ∧ cap = cap' := by simpa using hv
 have key : ∀ i u, [z0, z1, z2, z3, z4, z5, z6][i]? = some u → w.cell? ⟨n, m * 7 + i, none⟩ = some u := fun i u hu => hc _ _ (by rw [List.getElem?_append_right (by omega), hl, Nat.add_sub_cancel_left]; exact hu)
 exact ⟨key 0 _ rfl, key 1 _ rfl, key 2 _ rfl, key 3 _ rfl, key 4 _ rfl, key 5 _ rfl, key 6 _ rfl⟩
def nsgB (t : Tok) : Bool := !sgnB t
def cndB (tk : Tok) : List Tok → Bool
 | [] => false
 | s :: _ => decide (levelT tk.2.2 ≤ levelT s.2.2)
theorem cnd_ne {tk : Tok} {ss : List Tok} (h : cndB tk ss = true) : ss ≠ [] := by
 rintro rfl
 cases h
theorem cnd_yes {T : List Tok} {k : Nat} {tk s : Tok} {ss ss' : List Tok} (hk : tkNext T k = tk) (h4 : (tkNext T k).1 = 4 ∧ 0 < levelT (tkNext T k).2.2) (h : cndB tk ss = true) (e : ss = s :: ss') : ix s ≤ nx T k := by
 subst e
 have h1 : levelT tk.2.2 ≤ levelT s.2.2 := of_decide_eq_true h
 unfold ix nx
 rw [if_pos h4.1, hk]
 omega
theorem cnd_no {T : List Tok} {k : Nat} {tk : Tok} {ss : List Tok} (hk : tkNext T k = tk) (h4 : (tkNext T k).1 = 4 ∧ 0 < levelT (tkNext T k).2.2) (h : cndB tk ss = false) : nx T k < nextIx ss := by
 have hr := level_range (tkNext T k).2.2
 unfold nx
 rw [if_pos h4.1]
 cases ss with
 | nil =>
   show _ < 5
   omega
 | cons s ss =>
   have h1 : ¬ levelT tk.2.2 ≤ levelT s.2.2 := of_decide_eq_false h
   have hs := level_range s.2.2
   rw [hk] at hr ⊢
   show _ < (5 - levelT s.2.2).toNat
   omega
theorem tight_cons {T : List Tok} {k : Nat} {ss : List Tok} (h4 : (tkNext T k).1 = 4 ∧ 0 < levelT (tkNext T k).2.2) (ht : Tight ss) (h : nx T k < nextIx ss) : Tight (tkNext T k :: ss) := by
 have hix : ix (tkNext T k) = nx T k := by unfold ix nx; rw [if_pos h4.1]
 have hr := level_range (tkNext T k).2.2
 have h5 : nx T k ≤ 4 := by
  unfold nx
  rw [if_pos h4.1]
  omega
 refine ⟨by omega, fun t htm => ?_, ht⟩
 cases ss with
 | nil => cases htm
 | cons s ss =>
   have h : nx T k < ix s := h
   rcases List.mem_cons.1 htm with rfl | hm
   · omega
   · have := ht.2.1 t hm
     omega
theorem nextIx_le {ss : List Tok} (ht : Tight ss) : nextIx ss ≤ 5 := by
 cases ss with
 | nil => exact Nat.le_refl _
 | cons s ss => exact Nat.le_trans ht.1 (by decide)
theorem texpr_calls {B : Nat} {T : List Tok} {E : Int} {tv : Value} {bl al : Nat} {prim : Nat → Rs Ex} (hm : Mono prim) (hT : ∀ t ∈ T, okTxt t.2.2) (hone : TReads B T E tv bl al 146 prim) : TReads B T E tv bl al 71 (exprL T prim 5) := by
 intro w s h
 obtain ⟨t0, hi, hz0, hz1, hz2⟩ := info_parts Tryz.info_exprP
 obtain ⟨u0, ui, uz0, uz1, uz2⟩ := info_parts Tryz.info_token
 have HB : Hid (B < w.heap.size) := h.lt
 have HLN := Hd h.len
 have HM := Hd hm
 have HT : Hid (∀ k, okTxt (tkNext T k).2.2) := fun k => by
  by_cases hk : k < T.length
  · rw [tkNext_lt hk]; exact hT _ (List.getElem_mem hk)
  · rw [tkNext_ge hk]; unfold okTxt; decide
 have HONE := Hd hone
 have hmf := mf_run
 have eg : ∀ args w, (callFunc 147 args).run Tryz.prog w = .ok (.enter 147 args) w := enters_at Tryz.func147 (by kernel_rfl) rfl
 obtain ⟨W1, eW1⟩ : ∃ W1, w.alloc (.cells #[.int .i64 0, .int .i64 0, .int .i64 0, .int .i64 0, .string ⟨#[]⟩, .slice none 0 0, .slice none 0 0] 26) = W1 := ⟨_, rfl⟩
 have hb1 : Below w.heap.size w W1 := by rw [← eW1]; exact (Below.refl _ _).alloc (Nat.le_refl _) _
 have hz1' : W1.heap.size = w.heap.size + 1 := by rw [← eW1]; simp
 have hX1 : Blk W1 w.heap.size [.int .i64 0, .int .i64 0, .int .i64 0, .int .i64 0, .string ⟨#[]⟩, .slice none 0 0, .slice none 0 0] 26 := by rw [← eW1]; exact Blk.new _ _ _
 have HX1 := Hd hX1
 have HTK := Hd (h.below hb1).toks
 have HTK0 := Hd h.toks
 have HB1 := Hd hb1
 have HZ1 := Hd hz1'
 have H1 := Hd (HONE.out W1 s (h.below hb1))
 clear h hm hT hone hb1 hz1' hX1
 go_enter Tryz.func71, Tryz.ntmps71
 go_wp2_with (fail)
 refine H1.out.mono ?_
 rintro e w2 ⟨ha2, v2, x0, rfl, hr2, hx2, ht2⟩
 obtain ⟨pl, cl, pa, ca, rfl, hrow⟩ := hx2.cells
 obtain ⟨W5, eW5⟩ : ∃ W5, ((w2.alloc (.cells #[.int .i64 x0.kind, .int .i64 x0.at_, .int .i64 x0.num, .int .i64 x0.ty, .string x0.name, .slice pl x0.lab.length cl, .slice pa x0.kids.length ca] 26)).alloc (.cells #[.slice (some ⟨w2.heap.size, 0, none⟩) 1 1] 24)).alloc (.cells #[.slice none 0 0] 79) = W5 := ⟨_, rfl⟩
 have HSI : Hid (SI W1 W5 B T E tv bl al W1.heap.size (w2.heap.size + 1) (w2.heap.size + 1 + 1) s prim x0 [] [] (s.run prim) (.slice (some ⟨w2.heap.size, 0, none⟩) 1 1) (.slice none 0 0)) := by
  have hw2 := ha2.size
  have hz1 := HZ1.out
  have hBw := HB.out
  have hA : Aside1 B W1 w2 := ha2
  have hb3 : Below w2.heap.size w2 (w2.alloc (.cells #[.int .i64 x0.kind, .int .i64 x0.at_, .int .i64 x0.num, .int .i64 x0.ty, .string x0.name, .slice pl x0.lab.length cl, .slice pa x0.kids.length ca] 26)) := (Below.refl _ _).alloc (Nat.le_refl _) _
  have hs3 : (w2.alloc (.cells #[.int .i64 x0.kind, .int .i64 x0.at_, .int .i64 x0.num, .int .i64 x0.ty, .string x0.name, .slice pl x0.lab.length cl, .slice pa x0.kids.length ca] 26)).heap.size = w2.heap.size + 1 := by simp
  have ho3 : (w2.alloc (.cells #[.int .i64 x0.kind, .int .i64 x0.at_, .int .i64 x0.num, .int .i64 x0.ty, .string x0.name, .slice pl x0.lab.length cl, .slice pa x0.kids.length ca] 26)).ownsRow W1.heap.size 26 7 (.slice (some ⟨w2.heap.size, 0, none⟩) 1 1) 1 [.int .i64 x0.kind, .int .i64 x0.at_, .int .i64 x0.num, .int .i64 x0.ty, .string x0.name, .slice pl x0.lab.length cl, .slice pa x0.kids.length ca] := by
   have := World.ownsRow_lit (base := W1.heap.size) (e := 26) (size := 7) w2 #[.int .i64 x0.kind, .int .i64 x0.at_, .int .i64 x0.num, .int .i64 x0.ty, .string x0.name, .slice pl x0.lab.length cl, .slice pa x0.kids.length ca] 1 hw2 (by unfold maxLen; omega) (by simp)
   simpa using this
  generalize w2.alloc (.cells #[.int .i64 x0.kind, .int .i64 x0.at_, .int .i64 x0.num, .int .i64 x0.ty, .string x0.name, .slice pl x0.lab.length cl, .slice pa x0.kids.length ca] 26) = W3 at *
  have hb4 : Below W3.heap.size W3 (W3.alloc (.cells #[.slice (some ⟨w2.heap.size, 0, none⟩) 1 1] 24)) := (Below.refl _ _).alloc (Nat.le_refl _) _
  have hc4 : Blk (W3.alloc (.cells #[.slice (some ⟨w2.heap.size, 0, none⟩) 1 1] 24)) (w2.heap.size + 1) [.slice (some ⟨w2.heap.size, 0, none⟩) 1 1] 24 := by rw [← hs3]; exact Blk.new _ _ _
  have hs4 : (W3.alloc (.cells #[.slice (some ⟨w2.heap.size, 0, none⟩) 1 1] 24)).heap.size = w2.heap.size + 1 + 1 := by simp [hs3]
  generalize W3.alloc (.cells #[.slice (some ⟨w2.heap.size, 0, none⟩) 1 1] 24) = W4 at *
  have hb5 : Below W4.heap.size W4 W5 := by rw [← eW5]; exact (Below.refl _ _).alloc (Nat.le_refl _) _
  have hc5 : Blk W5 (w2.heap.size + 1 + 1) [.slice none 0 0] 79 := by rw [← eW5, ← hs4]; exact Blk.new _ _ _
  have hb25 : Below w2.heap.size w2 W5 := hb3.trans ((hb4.trans (hb5.mono hb4.size)).mono hb3.size)
  refine ⟨⟨hr2.below hb25, hA.trans (aside_below hb25), ⟨_, own_below (own_below ho3 hb4) hb5, .one (exE_stays _ _ _ _ (keeps_hide hb25.size fun b hb hp => ⟨prv_no.2 ?_, hb25.block b hb⟩) hrow) rfl⟩, World.ownsRow_nil _ _ _ _, hc4.below hb5, hc5, ?_, ?_, ?_⟩, ?_, rfl, trivial, fun u hu => by cases hu⟩
  · simp at hp
    exact ⟨hp, by omega, by omega, fun e => by simp [Value.ownBlock] at e; omega, fun e => by simp [Value.ownBlock] at e⟩
  · exact ⟨fun e => by simp [Value.ownBlock] at e; try omega, fun e => by simp [Value.ownBlock] at e; try omega, fun e => by simp [Value.ownBlock] at e; try omega, fun e => by simp [Value.ownBlock] at e; try omega⟩
  · exact fun g _ e => by simp [Value.ownBlock] at e
  · exact ⟨by omega, by omega, by omega, by omega, by omega⟩
  · have hg := Goes.refl s (exprL T prim 5)
    have hg2 : Goes s (exprL T prim 5) s fun k => (prim k).bind fun x k' => fin T prim 0 x [] [] k' := hg.turn fun j _ => (exprL_fin j).symm
    exact hg2.step ht2
 clear ha2 hr2 hx2 hrow H1
 go_wp2_with (fail)
 clear eW5 eW1
 generalize hb3' : w2.heap.size + 1 = b3 at *
 generalize hb4' : b3 + 1 = b4 at *
 clear hb3' hb4'
 go_loopg [] (mu T.length (s.run prim)) (fun f ws => ∃ (x : Ex) (ls : List Ex) (ss : List Tok) (t : TS) (lv sv : Value) (wo : World), wo = ws ∧ Hid (f = mu T.length t) ∧ Hid (SI W1 wo B T E tv bl al W1.heap.size b3 b4 s prim x ls ss t lv sv))
 case atStart => exact ⟨x0, [], [], s.run prim, _, _, _, rfl, rfl, HSI.out⟩
 case round =>
  clear HSI
  obtain ⟨x, ls, ss, t, lv, sv, wo, rfl, HF, HSI⟩ := hrel
  have HPK := Hd (peek_calls HSI.out.ei.rdr)
  have HTT : Hid (okTxt (tkNext T (t.k T.length)).2.2) := HT.out _
  generalize hpk : tkNext T (t.k T.length) = tk at *
  have HTK4 := Hd hpk
  clear hpk
  go_wp2_with (fail)
  refine HPK.out.mono ?_
  rintro e w6 ⟨rfl, hb6⟩
  obtain ⟨W7, eW7⟩ : ∃ W7, w6.alloc (.cells #[.int .i64 tk.1, .int .i64 tk.2.1, .string tk.2.2] 153) = W7 := ⟨_, rfl⟩
  have hb7 : Below w6.heap.size w6 W7 := by rw [← eW7]; exact (Below.refl _ _).alloc (Nat.le_refl _) _
  have hX7 : Blk W7 w6.heap.size [.int .i64 tk.1, .int .i64 tk.2.1, .string tk.2.2] 153 := by rw [← eW7]; exact Blk.new _ _ _
  have HX7 := Hd hX7
  have HSI7 := Hd (HSI.out.below (hb6.trans (hb7.mono hb6.size)))
  have HTN : Hid (w6.heap.size ≠ B ∧ w6.heap.size ≠ b3 ∧ w6.heap.size ≠ b4 ∧ W1.heap.size ≤ w6.heap.size ∧ lv.ownBlock ≠ some w6.heap.size ∧ sv.ownBlock ≠ some w6.heap.size) := by
   have h1 := HSI.out.ei
   have h2 := hb6.size
   have h3 := h1.rdr.lt
   have h4 := h1.c3.lt
   have h5 := h1.c4.lt
   have h6 := h1.aside.size
   obtain ⟨vals, h7, _⟩ := h1.lown
   exact ⟨by omega, by omega, by omega, by omega, fun e => by have := (h7.lt _ e).2; omega, fun e => by have := (h1.sown.lt _ e).2; omega⟩
  have d0 := hX7.cell 0
  have d1 := hX7.cell 1
  have d2 := hX7.cell 2
  have f0 := hX7.fz 0
  have f1 := hX7.fz 1
  have f2 := hX7.fz 2
  simp only [List.getElem?_cons_zero, List.getElem?_cons_succ] at d0 d1 d2
  have HLV := Hd (levelOf_calls tk.2.2 W7 HTT.out)
  clear hb6 hb7 hX7 HSI HPK
  go_upto_region 5 with fail
  clear eW7
  go_cut [21] from 11 to 58 (fun s21 wc => s21 = .bool (nsgB tk) ∧ Hid (SI W1 wc B T E tv bl al W1.heap.size b3 b4 s prim x ls ss t lv sv) ∧ Hid (Blk wc w6.heap.size [.int .i64 tk.1, .int .i64 tk.2.1, .string tk.2.2] 153))
  case first =>
   cases h4 : (tk.1 == 4) with
   | false =>
     have h4n : (tk.1 != 4) = true := by simp [bne, h4]
     have HR : Hid (nsgB tk = true) := by unfold Hid nsgB sgnB; rw [h4]; rfl
     clear h4
     go_wp2_with (fail)
     go_meet
     exact ⟨by rw [HR.out], HSI7, HX7⟩
   | true =>
     have h4n : (tk.1 != 4) = false := by simp [bne, h4]
     have HR : Hid (nsgB tk = (levelT tk.2.2 == 0)) := by unfold Hid nsgB sgnB; rw [h4]; simp
     clear h4
     generalize levelT tk.2.2 = lt at *
     go_wp2_with (fail)
     refine HLV.out.mono ?_
     rintro e w8 ⟨rfl, hb8⟩
     have HS8 := Hd (HSI7.out.below hb8)
     have HX8 := Hd (HX7.out.below hb8)
     clear hb8
     go_wp2_with (fail)
     go_meet
     exact ⟨by rw [HR.out], HS8, HX8⟩
  case rest =>
  obtain ⟨rfl, HSI8, HX8⟩ := hcut
  rename World => w8
  clear d0 d1 d2 f0 f1 f2 HSI7 HX7 HLV
  cases hsg : nsgB tk with
  | true =>
    have HNX : Hid (∀ k, t = .go k → nx T k = 5) := fun k e => by
     subst e
     exact sgn_no (by have := HTK4.out; simp only [TS.k] at this; rw [this]; simpa [nsgB] using hsg)
    clear hsg
    go_wp2_with (fail)
    go_loopg [] ss.length (fun f ws => ∃ (x : Ex) (ls : List Ex) (ss : List Tok) (lv sv : Value) (wo : World), wo = ws ∧ Hid (f = ss.length) ∧ Hid (SI W1 wo B T E tv bl al W1.heap.size b3 b4 s prim x ls ss t lv sv))
    case atStart => exact ⟨x, ls, ss, lv, sv, _, rfl, rfl, HSI8.out⟩
    case round =>
     clear HSI8 HX8 HTN
     obtain ⟨x, ls, ss, lv, sv, wo, rfl, HF3, HS3⟩ := hrel
     obtain ⟨ps, cs, pl, cl, rfl, rfl, c4, c3⟩ := HS3.out.same
     cases ss with
     | nil =>
       have hlen : ls.length = 0 := HS3.out.len
       obtain rfl : ls = [] := List.length_eq_zero_iff.1 hlen
       obtain ⟨vals, hlo, hrows⟩ := HS3.out.ei.lown
       obtain ⟨us, us', rfl, hx, hus, hus'⟩ : Rows exE 7 _ [x] vals := hrows
       obtain rfl : us' = [] := hus'
       obtain ⟨vlx, vax, ex, hlx, hax⟩ := exE_out hx
       obtain ⟨plx, clx, rfl, _⟩ := hlx
       obtain ⟨pax, cax, rfl, _⟩ := hax
       obtain ⟨g, cap, hv, hg0, hg1, hc1, hc2, hcell⟩ := own_form hlo (Nat.succ_pos 0)
       obtain ⟨rfl, rfl⟩ : pl = some ⟨g, 0, none⟩ ∧ cl = cap := by simpa using hv
       have HX := Hd hx
       subst ex
       have d0 : wo.cell? ⟨g, 0, none⟩ = some (.int .i64 x.kind) := hcell 0 _ rfl
       have d1 : wo.cell? ⟨g, 1, none⟩ = some (.int .i64 x.at_) := hcell 1 _ rfl
       have d2 : wo.cell? ⟨g, 2, none⟩ = some (.int .i64 x.num) := hcell 2 _ rfl
       have d3 : wo.cell? ⟨g, 3, none⟩ = some (.int .i64 x.ty) := hcell 3 _ rfl
       have d4 : wo.cell? ⟨g, 4, none⟩ = some (.string x.name) := hcell 4 _ rfl
       have d5 : wo.cell? ⟨g, 5, none⟩ = some (.slice plx x.lab.length clx) := hcell 5 _ rfl
       have d6 : wo.cell? ⟨g, 6, none⟩ = some (.slice pax x.kids.length cax) := hcell 6 _ rfl
       have hwB : w.heap.size ≠ B := by have := HB.out; omega
       have hXW : Blk wo w.heap.size [.int .i64 0, .int .i64 0, .int .i64 0, .int .i64 0, .string ⟨#[]⟩, .slice none 0 0, .slice none 0 0] 26 := HX1.out.aside HS3.out.ei.aside hwB
       obtain ⟨k0, k1, k2, k3, k4, k5, k6⟩ := hXW.cells7
       obtain ⟨j0, j1, j2, j3, j4, j5, j6⟩ := hXW.fz7
       have hgw : g ≠ w.heap.size := by have := HZ1.out; omega
       have HSV : Hid (∀ W', W' = sev wo w.heap.size (.int .i64 x.kind) (.int .i64 x.at_) (.int .i64 x.num) (.int .i64 x.ty) (.string x.name) (.slice plx x.lab.length clx) (.slice pax x.kids.length cax) →
        (Blk W' w.heap.size [.int .i64 x.kind, .int .i64 x.at_, .int .i64 x.num, .int .i64 x.ty, .string x.name, .slice plx x.lab.length clx, .slice pax x.kids.length cax] 26) ∧ TDoes w B T E tv s bl al (fun W x v => ExIs W x v) (exprL T prim 5) (.returned (.agg #[.int .i64 x.kind, .int .i64 x.at_, .int .i64 x.num, .int .i64 x.ty, .string x.name, .slice plx x.lab.length clx, .slice pax x.kids.length cax])) W') := fun W' eW' => by
        subst eW'
        have hA0 : Aside1 B w wo := (aside_below HB1.out).trans HS3.out.ei.aside
        have hA := aside_sev (a := .int .i64 x.kind) (b := .int .i64 x.at_) (c := .int .i64 x.num) (d := .int .i64 x.ty) (e := .string x.name) (f := .slice plx x.lab.length clx) (g := .slice pax x.kids.length cax) hA0 (Nat.le_refl _)
        have hrest : ∀ b, b ≠ w.heap.size → (sev wo w.heap.size (.int .i64 x.kind) (.int .i64 x.at_) (.int .i64 x.num) (.int .i64 x.ty) (.string x.name) (.slice plx x.lab.length clx) (.slice pax x.kids.length cax)).heap[b]? = wo.heap[b]? := fun b hb => by
         have hb' : w.heap.size ≠ b := fun e => hb e.symm
         unfold sev
         rw [Below.heap_setCell _ _ _ _ (by simpa using hb), Below.heap_setCell _ _ _ _ (by simpa using hb), Below.heap_setCell _ _ _ _ (by simpa using hb), Below.heap_setCell _ _ _ _ (by simpa using hb), Below.heap_setCell _ _ _ _ (by simpa using hb), Below.heap_setCell _ _ _ _ (by simpa using hb), Below.heap_setCell _ _ _ _ (by simpa using hb)]
        have hfin : Goes s (exprL T prim 5) t fun k => .ok x k := HS3.out.goes.turn fun j e => (fin_end (HNX.out j e)).symm
        have hsz : (sev wo w.heap.size (.int .i64 x.kind) (.int .i64 x.at_) (.int .i64 x.num) (.int .i64 x.ty) (.string x.name) (.slice plx x.lab.length clx) (.slice pax x.kids.length cax)).heap.size = wo.heap.size := by unfold sev; simp [World.setCell]
        have hx9 : exE (since w.heap.size (sev wo w.heap.size (.int .i64 x.kind) (.int .i64 x.at_) (.int .i64 x.num) (.int .i64 x.ty) (.string x.name) (.slice plx x.lab.length clx) (.slice pax x.kids.length cax))) x _ := exE_stays _ _ _ _ (keeps_hide (by rw [hsz]; exact Nat.le_refl _) fun b hb hp => by
         have h1 := (prv_no.1 hp).1
         have h2 := HZ1.out
         exact ⟨by simp; omega, hrest b (by omega)⟩) HX.out
        obtain ⟨vl9, va9, e9, hl9, ha9⟩ := exE_out hx9
        refine ⟨Blk.sev hXW, hA, _, x, rfl, ?_, ⟨vl9, va9, ?_, hl9, ha9⟩, hfin.fin.2⟩
        · rw [hfin.fin.1]
          exact ⟨by rw [hrest B (fun e => hwB e.symm)]; exact HS3.out.ei.rdr.blk, HTK0.out.stays hA.keeps, HS3.out.ei.rdr.fine⟩
        · rw [e9]
       clear hx hlo hcell hv
       go_wp2_with (fail)
       obtain ⟨hb9, hd9⟩ := HSV.out _ rfl
       obtain ⟨q0, q1, q2, q3, q4, q5, q6⟩ := hb9.cells7
       unfold sev at q0 q1 q2 q3 q4 q5 q6 hd9
       refine bodyPost_ret (v := .agg #[.int .i64 x.kind, .int .i64 x.at_, .int .i64 x.num, .int .i64 x.ty, .string x.name, .slice plx x.lab.length clx, .slice pax x.kids.length cax]) ?_ rfl hd9
       simp [results, Tryz.results71, go_sem, q0, q1, q2, q3, q4, q5, q6]
     | cons s1 ss' =>
       have HPT := Hd (HS3.out.put HTK.out (by simp) (fun s ss e k e2 => by rw [HNX.out k e2]; cases e; exact Nat.le_trans HS3.out.tight.1 (by decide)))
       have hpos : (0 : Int) < (((ss'.length + 1 : Nat)) : Int) := by omega
       simp only [List.length_cons] at c4
       go_wp2_with (fail)
       refine HPT.out.mono ?_
       rintro e w9 ⟨rfl, x', ls', ss'', lv', sv', hl, hs9, _, _⟩
       have HS9 := Hd hs9
       have HL9 := Hd hl
       clear hs9 hl
       go_wp2_with (fail)
       go_roundg ss''.length
       case measure => have h1 := HF3.out; have h2 := HL9.out; omega
       case rel => exact ⟨x', ls', ss'', lv', sv', _, rfl, rfl, HS9.out⟩
  | false =>
    obtain ⟨k, rfl, hk4, hkl⟩ := sgn_yes (T := T) (t := t) (by rw [HTK4.out]; simpa [nsgB] using hsg)
    have HKT : Hid (tkNext T k = tk) := HTK4.out
    have HK4 : Hid ((tkNext T k).1 = 4 ∧ 0 < levelT (tkNext T k).2.2) := ⟨hk4, hkl⟩
    have HB3 : Hid (w6.heap.size ≠ B ∧ w6.heap.size ≠ b3 ∧ w6.heap.size ≠ b4) := ⟨HTN.out.1, HTN.out.2.1, HTN.out.2.2.1⟩
    clear hsg hk4 hkl HTN HTK4
    go_wp2_with (fail)
    go_loopg [] ss.length (fun f ws => ∃ (x : Ex) (ls : List Ex) (ss : List Tok) (lv sv : Value) (wo : World), wo = ws ∧ Hid (f = ss.length) ∧ Hid (SI W1 wo B T E tv bl al W1.heap.size b3 b4 s prim x ls ss (.go k) lv sv) ∧ Hid (Blk wo w6.heap.size [.int .i64 tk.1, .int .i64 tk.2.1, .string tk.2.2] 153))
    case atStart => exact ⟨x, ls, ss, lv, sv, _, rfl, rfl, HSI8.out, HX8.out⟩
    case round =>
     clear HSI8 HX8
     obtain ⟨x, ls, ss, lv, sv, wo, rfl, HF2, HS2, HX2⟩ := hrel
     obtain ⟨ps, cs, pl, cl, rfl, rfl, c4, c3⟩ := HS2.out.same
     go_upto_region 6 with fail
     go_cut [38] from 22 to 40 (fun s38 wc => s38 = .bool (cndB tk ss) ∧ Hid (SI W1 wc B T E tv bl al W1.heap.size b3 b4 s prim x ls ss (.go k) (.slice pl (ls.length + 1) cl) (.slice ps ss.length cs)) ∧ Hid (Blk wc w6.heap.size [.int .i64 tk.1, .int .i64 tk.2.1, .string tk.2.2] 153))
     case first =>
      obtain ⟨ext, hx1, hx2⟩ := exists_ext wo
      have hx3 : ∀ r w', Below (ext r).heap.size (ext r) w' → ∃ r', w' = ext r' := fun r w' h => ⟨w', hx2 _ ((hx1 r).trans (h.mono (hx1 r).size))⟩
      have HD0 : Hid (∃ r', wo.drew = ext r') := ⟨_, hx2 _ (below_drew1 _)⟩
      have HE : Hid (∀ r, (SI W1 (ext r) B T E tv bl al W1.heap.size b3 b4 s prim x ls ss (.go k) (.slice pl (ls.length + 1) cl) (.slice ps ss.length cs)) ∧ Blk (ext r) w6.heap.size [.int .i64 tk.1, .int .i64 tk.2.1, .string tk.2.2] 153) := fun r => ⟨HS2.out.below (hx1 r), HX2.out.below (hx1 r)⟩
      have c4r : ∀ r, (ext r).cell? ⟨b4, 0, none⟩ = some (.slice ps ss.length cs) := fun r => (HE.out r).1.ei.c4.cell 0
      have d2r : ∀ r, (ext r).cell? ⟨w6.heap.size, 2, none⟩ = some (.string tk.2.2) := fun r => (HE.out r).2.cell 2
      have HLT : Hid (∀ r, Calls Tryz.prog 26 #[.string tk.2.2] (ext r) fun e w'' => e = .returned (.int .i64 (levelT tk.2.2)) ∧ ∃ r', w'' = ext r') := fun r => (levelOf_calls tk.2.2 _ HTT.out).mono fun e w' ⟨h1, h2⟩ => ⟨h1, hx3 r w' h2⟩
      clear c4 c3
      cases ss with
      | nil =>
        clear hx1 hx2 hx3
        refine wp_region_clsW (fun w' => ∃ r, w' = ext r) (by kernel_rfl) (by kernel_rfl) HD0.out ?_
        repeat go_big_quiet_step (fail)
        refine wpQuiet_nil ?_
        rintro w' ⟨r', rfl⟩
        go_wp2_with (fail)
        go_meet
        exact ⟨rfl, (HE.out _).1, (HE.out _).2⟩
      | cons s1 ss' =>
        have hs1 : okTxt s1.2.2 := HS2.out.ok s1 (by simp)
        have HLS : Hid (∀ r, Calls Tryz.prog 26 #[.string s1.2.2] (ext r) fun e w'' => e = .returned (.int .i64 (levelT s1.2.2)) ∧ ∃ r', w'' = ext r') := fun r => (levelOf_calls s1.2.2 _ hs1).mono fun e w' ⟨h1, h2⟩ => ⟨h1, hx3 r w' h2⟩
        obtain ⟨g, cap, hv, hg0, hg1, hc1, hc2, _⟩ := own_form HS2.out.ei.sown (by simp)
        obtain ⟨rfl, hcc⟩ : ps = some ⟨g, 0, none⟩ ∧ cs = cap := by simpa using hv
        have hcellr : ∀ r, (ext r).cell? ⟨g, ss'.length * 3 + 2, none⟩ = some (.string s1.2.2) := fun r => by
         obtain ⟨g', cap', hv', _, _, _, _, hcell⟩ := own_form (HE.out r).1.ei.sown (by simp)
         have hgg : g = g' := by simp at hv'; exact hv'.1
         subst hgg
         exact hcell _ _ (by rw [List.reverse_cons, tksC_snoc, List.getElem?_append_right (by rw [tksC_len]; simp), tksC_len]; simp [tkC])
        have h5 := tight_five HS2.out.tight
        simp only [List.length_cons] at h5 c4r
        clear hv hg0 hg1 hc1 hc2 hcc hs1 hx1 hx2 hx3
        have HEQ : Hid ((.bool (cndB tk (s1 :: ss')) : Value) = .bool (decide (levelT tk.2.2 ≤ levelT s1.2.2))) := rfl
        generalize levelT tk.2.2 = lt at *
        generalize levelT s1.2.2 = l1 at *
        generalize hnl : ss'.length = n at *
        have w1 : IntKind.i64.wrap ((n : Int) + 1 - 1) = (n : Int) := by rw [IntKind.wrap_i64]; omega
        have w3 : IntKind.i64.wrap (n : Int) = (n : Int) := by rw [IntKind.wrap_i64]; omega
        have hn0 : (0 : Int) ≤ (n : Int) := by omega
        have hn1 : (n : Int) < (n : Int) + 1 := by omega
        have hpos : (0 : Int) < (n : Int) + 1 := by omega
        have hpos2 : (0 : Int) < (((n + 1 : Nat)) : Int) := by omega
        clear hnl h5
        by_cases hlt : lt ≤ l1
        · have HL : Hid (decide (lt ≤ l1) = true) := decide_eq_true hlt
          refine wp_region_clsW (fun w' => ∃ r, w' = ext r) (by kernel_rfl) (by kernel_rfl) HD0.out ?_
          repeat go_big_quiet_step (first
           | (go_at_call 26; with_reducible exact HLT.out _)
           | (go_at_call 26; with_reducible exact HLS.out _))
          refine wpQuiet_nil ?_
          rintro w' ⟨r', rfl⟩
          go_wp2_with (fail)
          go_meet
          exact ⟨by rw [HEQ.out, HL.out]; try rfl, (HE.out _).1, (HE.out _).2⟩
        · have HL : Hid (decide (lt ≤ l1) = false) := decide_eq_false hlt
          refine wp_region_clsW (fun w' => ∃ r, w' = ext r) (by kernel_rfl) (by kernel_rfl) HD0.out ?_
          repeat go_big_quiet_step (first
           | (go_at_call 26; with_reducible exact HLT.out _)
           | (go_at_call 26; with_reducible exact HLS.out _))
          refine wpQuiet_nil ?_
          rintro w' ⟨r', rfl⟩
          go_wp2_with (fail)
          go_meet
          exact ⟨by rw [HEQ.out, HL.out]; try rfl, (HE.out _).1, (HE.out _).2⟩
     case rest =>
     obtain ⟨rfl, HS7, HX7⟩ := hcut
     rename World => w7
     clear c4 c3 HS2 HX2
     cases hcn : cndB tk ss with
     | true =>
       have HPT := Hd (HS7.out.put HTK.out (cnd_ne hcn) (fun s ss' e k' e2 => by cases e2; exact cnd_yes HKT.out HK4.out hcn e))
       clear hcn
       go_wp2_with (fail)
       refine HPT.out.mono ?_
       rintro e w9 ⟨rfl, x', ls', ss'', lv', sv', hl, hs9, hz9, hr9⟩
       have HS9 := Hd hs9
       have HL9 := Hd hl
       have HX9 : Hid (Blk w9 w6.heap.size [.int .i64 tk.1, .int .i64 tk.2.1, .string tk.2.2] 153) := (hr9 _ HX7.out.lt HB3.out.2.1 HB3.out.2.2).trans HX7.out
       clear hs9 hl hz9 hr9
       go_wp2_with (fail)
       go_roundg ss''.length
       case measure => have h1 := HF2.out; have h2 := HL9.out; omega
       case rel => exact ⟨x', ls', ss'', lv', sv', _, rfl, rfl, HS9.out, HX9.out⟩
     | false =>
       have HCN := Hd hcn
       have HTI : Hid (nx T k < nextIx ss ∧ Tight (tkNext T k :: ss) ∧ nextIx ss ≤ 5) := ⟨cnd_no HKT.out HK4.out hcn, tight_cons HK4.out HS7.out.tight (cnd_no HKT.out HK4.out hcn), nextIx_le HS7.out.tight⟩
       clear hcn
       have HKL : Hid (k < T.length) := kind_lt (by have := HK4.out.1; omega)
       have hw : ((k : Nat) : Int) + 1 ≤ 9223372036854775807 := by have h1 := HKL.out; have h2 := HLN.out; omega
       have c1 := HS7.out.ei.rdr.c1
       have f1 := HS7.out.ei.rdr.fz 1
       simp only [TS.k] at c1
       have h5 : ss.length ≤ 5 := tight_five HS7.out.tight
       have hll : ls.length ≤ 5 := by rw [HS7.out.len]; exact h5
       generalize hn : ls.length + 1 = n at *
       have HN : Hid (ls.length + 1 = n) := hn
       have hn6 : n ≤ 6 := by omega
       generalize hns : ss.length = m at *
       have HSL : Hid (ss.length = m) := hns
       have HLEN : Hid ((ls.reverse ++ [x]).length = n) := by unfold Hid; simp; omega
       clear hn hns hll
       obtain ⟨W9, eW9⟩ : ∃ W9, w7.setCell ⟨B, 1, none⟩ (.int .i64 ((k : Int) + 1)) = W9 := ⟨_, rfl⟩
       have hs9 : Aside1 B w7 W9 := by rw [← eW9]; exact aside_set _ _
       have hr9 : Txr W9 B T E tv (.go (k + 1)) bl al := by rw [← eW9]; exact HS7.out.ei.rdr.upName rfl
       have HE9 := Hd (HS7.out.ei.call hs9 hr9)
       have hX9 : Blk W9 w6.heap.size [.int .i64 tk.1, .int .i64 tk.2.1, .string tk.2.2] 153 := HX7.out.aside hs9 HB3.out.1
       have d0 := hX9.cell 0
       have d1 := hX9.cell 1
       have d2 := hX9.cell 2
       have c4 := HE9.out.c4.cell 0
       simp only [List.getElem?_cons_zero, List.getElem?_cons_succ] at d0 d1 d2 c4
       obtain ⟨W10, eW10⟩ : ∃ W10, W9.alloc (.cells #[.int .i64 tk.1, .int .i64 tk.2.1, .string tk.2.2] 153) = W10 := ⟨_, rfl⟩
       obtain ⟨z10, hb10, m10⟩ := boxes1 eW10
       have HE10 := Hd (HE9.out.below hb10)
       have hown10 : W10.ownsRow W1.heap.size 153 3 (.slice ps m cs) m (tksC ss.reverse) := by
        have := HE10.out.sown
        rw [List.length_reverse, HSL.out] at this
        exact this
       have hsz10 : W1.heap.size ≤ W10.heap.size := HE10.out.aside.size
       have HF4 : Hid (b4 < W10.heap.size ∧ some b4 ≠ (Value.slice ps m cs).ownBlock) := ⟨HE10.out.c4.lt, fun e => HE10.out.far.2.2.2 e.symm⟩
       have f410 := HE10.out.c4.fz 0
       have c410 := HE10.out.c4.cell 0
       simp only [List.getElem?_cons_zero] at c410
       clear hs9 hr9 hX9 hb10
       go_wp2_with (at_builtin; refine wpList_append_own_at _ rfl _ _ 79 rfl W1.heap.size 153 u0 (.agg #[.int .i64 0, .int .i64 0, .string ⟨#[]⟩]) 3 32 Tryz.underlying79 ui uz0 uz1 uz2 rfl (by decide) _ _ _ rfl hown10 ⟨W9.heap.size, 0, none⟩ 1 1 [.int .i64 tk.1, .int .i64 tk.2.1, .string tk.2.2] rfl rfl ?c1 ?c2 ?c3 ?c4 ?c5 ?_)
       case c1 =>
        intro i u hj
        rw [Go.WideShapes.add_plain, Nat.zero_add, m10 i]
        simpa using hj
       case c2 => intro u hu; simp at hu; rcases hu with hu | hu | hu <;> subst hu <;> rfl
       case c3 => unfold maxLen; omega
       case c4 => omega
       case c5 => exact hsz10
       · intro v13 w13 hown13 hg13 _ hb13
         obtain ⟨g13, cap13, rfl, _⟩ := own_form hown13 (by omega)
         have f13 := (hg13.frozen_far ⟨b4, 0, none⟩ HF4.out.1 HF4.out.2).trans f410
         have c13 := (hg13.cell_far ⟨b4, 0, none⟩ HF4.out.1 HF4.out.2).trans c410
         have he13 := HE10.out.pushS (tok := tk) HTK.out (by rw [List.length_reverse, HSL.out]; exact hown13) hg13 (by rw [z10]; exact hb13)
         obtain ⟨W12, eW12⟩ : ∃ W12, w13.setCell ⟨b4, 0, none⟩ (.slice (some ⟨g13, 0, none⟩) (m + 1) cap13) = W12 := ⟨_, rfl⟩
         rw [eW12] at he13
         have hbd := below_drew1 W12
         have HE12 := Hd (he13.below hbd)
         have hbz : Below W12.drew.heap.size W12.drew (W12.drew.alloc (.cells #[.int .i64 0, .int .i64 0, .int .i64 0, .int .i64 0, .string ⟨#[]⟩, .slice none 0 0, .slice none 0 0] 26)) := (Below.refl _ _).alloc (Nat.le_refl _) _
         have hez := HE12.out.below hbz
         have HEZ : Hid (EI W1 ((W12.alloc (.cells #[.int .i64 0, .int .i64 0, .int .i64 0, .int .i64 0, .string ⟨#[]⟩, .slice none 0 0, .slice none 0 0] 26)).drew) B T E tv bl al W1.heap.size b3 b4 (.slice pl n cl) (.slice (some ⟨g13, 0, none⟩) (m + 1) cap13) (ls.reverse ++ [x]) (ss.reverse ++ [tk]) (.go (k + 1))) := hez
         clear hez
         have hBZ : Blk ((W12.alloc (.cells #[.int .i64 0, .int .i64 0, .int .i64 0, .int .i64 0, .string ⟨#[]⟩, .slice none 0 0, .slice none 0 0] 26)).drew) W12.heap.size [.int .i64 0, .int .i64 0, .int .i64 0, .int .i64 0, .string ⟨#[]⟩, .slice none 0 0, .slice none 0 0] 26 := Blk.new _ _ _
         have HC1 := Hd (HONE.out _ _ HE12.out.rdr)
         have HC2 := Hd (HONE.out _ _ HEZ.out.rdr)
         have c312 := HE12.out.c3.cell 0
         have c3z : (W12.alloc (.cells #[.int .i64 0, .int .i64 0, .int .i64 0, .int .i64 0, .string ⟨#[]⟩, .slice none 0 0, .slice none 0 0] 26)).cell? ⟨b3, 0, none⟩ = some (.slice pl n cl) := HEZ.out.c3.cell 0
         simp only [List.getElem?_cons_zero] at c312
         have hn0 : (0 : Int) ≤ (n : Int) := by omega
         have hn1 : (n : Int) < (n : Int) + 1 := by omega
         clear he13 hbd hown13 hg13 hb13 hown10 d0 d1 d2 c4 c1 f1 hw f410 c410 m10 eW10 eW9 HE9 HE10 HF4 h5
         go_upto_region 10 with fail
         clear eW12 f13 c13
         go_region_law (first
          | (refine step_append_lies _ rfl (.tmp 52) (.tmp 56) 24 rfl W1.heap.size 26 t0 (.agg #[.int .i64 0, .int .i64 0, .int .i64 0, .int .i64 0, .string ⟨#[]⟩, .slice none 0 0, .slice none 0 0]) 7 96 Tryz.underlying24 hi hz0 hz1 hz2 rfl (by decide) _ _ _ (by simp [Act.eval, Act.put]) hloA ⟨wA.heap.size, 0, none⟩ 1 1 [.int .i64 0, .int .i64 0, .int .i64 0, .int .i64 0, .string ⟨#[]⟩, .slice none 0 0, .slice none 0 0] (by simp [Act.eval, Act.put]) rfl (World.news_of_block (heap_alloc_new _ _)) (by simp [Value.oneCell']) (by decide) (by unfold maxLen; omega) (by omega) hszA _ rfl ?_
             intro g cap wE hownE hgE hatE hltE
             have HEND := Hd (fun W' hW' => HS7.out.pushZ (W' := W') HM.out HKT.out HK4.out HTI.out.1 HTI.out.2.1 HTI.out.2.2 HTT.out HN.out hEA HTK.out hloA hrowsA hzA' htA hownE hgE hatE hW')
             have fE := (hgE.frozen_far ⟨b3, 0, none⟩ hltA.out.1 hltA.out.2).trans fA
             have cE := (hgE.cell_far ⟨b3, 0, none⟩ hltA.out.1 hltA.out.2).trans cA
             obtain ⟨v0, v1, v2, v3, v4, v5, v6⟩ := own_tail hownE
             have r0 := own_fz hownE (n * 7)
             have r1 := own_fz hownE (n * 7 + 1)
             have r2 := own_fz hownE (n * 7 + 2)
             have r3 := own_fz hownE (n * 7 + 3)
             have r4 := own_fz hownE (n * 7 + 4)
             have r5 := own_fz hownE (n * 7 + 5)
             have r6 := own_fz hownE (n * 7 + 6)
             have hgb : g ≠ b3 := fun e => hltA.out.2 (by rcases hatE with e2 | e2
                                                          · rw [e2, e]
                                                          · have := hltA.out.1; omega)
             have hgb' : ¬ b3 = g := fun e => hgb e.symm)
          | (refine step_append_lies _ rfl (.tmp 52) (.tmp 56) 24 rfl W1.heap.size 26 t0 (.agg #[.int .i64 0, .int .i64 0, .int .i64 0, .int .i64 0, .string ⟨#[]⟩, .slice none 0 0, .slice none 0 0]) 7 96 Tryz.underlying24 hi hz0 hz1 hz2 rfl (by decide) _ _ _ (by simp [Act.eval, Act.put]) hloA ⟨W12.heap.size, 0, none⟩ 1 1 [.int .i64 0, .int .i64 0, .int .i64 0, .int .i64 0, .string ⟨#[]⟩, .slice none 0 0, .slice none 0 0] (by simp [Act.eval, Act.put]) rfl (World.news_of_block hBA) (by simp [Value.oneCell']) (by decide) (by unfold maxLen; omega) (by omega) hszA _ rfl ?_
             intro g cap wE hownE hgE hatE hltE
             have HEND := Hd (fun W' hW' => HS7.out.pushZ (W' := W') HM.out HKT.out HK4.out HTI.out.1 HTI.out.2.1 HTI.out.2.2 HTT.out HN.out hEA HTK.out hloA hrowsA hzA' htA hownE hgE hatE hW')
             have fE := (hgE.frozen_far ⟨b3, 0, none⟩ hltA.out.1 hltA.out.2).trans fA
             have cE := (hgE.cell_far ⟨b3, 0, none⟩ hltA.out.1 hltA.out.2).trans cA
             obtain ⟨v0, v1, v2, v3, v4, v5, v6⟩ := own_tail hownE
             have r0 := own_fz hownE (n * 7)
             have r1 := own_fz hownE (n * 7 + 1)
             have r2 := own_fz hownE (n * 7 + 2)
             have r3 := own_fz hownE (n * 7 + 3)
             have r4 := own_fz hownE (n * 7 + 4)
             have r5 := own_fz hownE (n * 7 + 5)
             have r6 := own_fz hownE (n * 7 + 6)
             have hgb : g ≠ b3 := fun e => hltA.out.2 (by rcases hatE with e2 | e2
                                                          · rw [e2, e]
                                                          · have := hltA.out.1; omega)
             have hgb' : ¬ b3 = g := fun e => hgb e.symm)
          | (go_simp
             go_at_call 146
             first
             | (refine HC1.out.mono ?_
                rintro e wA ⟨haA, vA, z, rfl, hrA, hzA, htA⟩
                obtain ⟨pz, cz, pb, cb, rfl, hrowA⟩ := hzA.cells
                have hEA0 := HE12.out.call haA hrA
                have cA0 := hEA0.c3.cell 0
                have hbA : Below wA.heap.size wA (wA.alloc (.cells #[.int .i64 0, .int .i64 0, .int .i64 0, .int .i64 0, .string ⟨#[]⟩, .slice none 0 0, .slice none 0 0] 26)) := (Below.refl _ _).alloc (Nat.le_refl _) _
                have hEA := hEA0.below hbA
                have hzA' := HE12.out.seen (Nat.le_refl _) hrowA hbA
                obtain ⟨vals, hlo0, hrowsA⟩ := hEA.lown
                rw [HLEN.out] at hlo0
                have hloA := hlo0
                have hszA := hEA.aside.size
                have hltA : Hid (b3 < (wA.alloc (.cells #[.int .i64 0, .int .i64 0, .int .i64 0, .int .i64 0, .string ⟨#[]⟩, .slice none 0 0, .slice none 0 0] 26)).heap.size ∧ some b3 ≠ (Value.slice pl n cl).ownBlock) := ⟨hEA.c3.lt, fun e => hEA.far.1 e.symm⟩
                have fA := hEA.c3.fz 0
                have cA := hEA.c3.cell 0
                simp only [List.getElem?_cons_zero] at cA cA0)
             | (refine HC2.out.mono ?_
                rintro e wA ⟨haA, vA, z, rfl, hrA, hzA, htA⟩
                obtain ⟨pz, cz, pb, cb, rfl, hrowA⟩ := hzA.cells
                have hEA := HEZ.out.call haA hrA
                have hzA' := HEZ.out.seen (Nat.le_refl _) hrowA (Below.refl _ _)
                obtain ⟨vals, hlo0, hrowsA⟩ := hEA.lown
                rw [HLEN.out] at hlo0
                have hloA := hlo0
                have hszA := hEA.aside.size
                have hltA : Hid (b3 < wA.heap.size ∧ some b3 ≠ (Value.slice pl n cl).ownBlock) := ⟨hEA.c3.lt, fun e => hEA.far.1 e.symm⟩
                have fA := hEA.c3.fz 0
                have cA := hEA.c3.cell 0
                simp only [List.getElem?_cons_zero] at cA
                have hBA := hBZ.aside haA (by have : B < W12.heap.size := HE12.out.rdr.lt; omega))))
         all_goals (try go_wp2_with (fail))
         all_goals (
          clear haA hrA hzA hrowA hEA hzA' hlo0 hrowsA hloA hszA fA cA hownE hgE hatE hltE fE cE v0 v1 v2 v3 v4 v5 v6 r0 r1 r2 r3 r4 r5 r6 htA
          go_roundg (mu T.length ((TS.go (k + 1)).run prim))
          case measure => have h1 := HF.out; have h2 := mu_run HM.out HKL.out; omega
          case rel =>
           refine ⟨z, x :: ls, tk :: ss, (TS.go (k + 1)).run prim, .slice (some ⟨g, 0, none⟩) (n + 1) cap, .slice (some ⟨g13, 0, none⟩) (m + 1) cap13, _, rfl, rfl, ?_⟩
           refine Hd ?_
           unfold sevO at HEND
           refine HEND.out _ ?_
           clear HEND
           generalize (Value.slice (some ⟨g, 0, none⟩) (n + 1) cap) = q7
           generalize (Value.slice pz (List.length z.lab) cz) = q5
           generalize (Value.slice pb z.kids.length cb) = q6
           generalize (Value.int IntKind.i64 z.kind) = q0
           generalize (Value.int IntKind.i64 z.at_) = q1
           generalize (Value.int IntKind.i64 z.num) = q2
           generalize (Value.int IntKind.i64 z.ty) = q3
           generalize (Value.string z.name) = q4
           first
           | (refine Or.inl ?_; with_reducible rfl)
           | (refine Or.inr ?_; with_reducible rfl))
end
end Go.Proofs.YtmepcmnpmhhiiaaGreatDoor
