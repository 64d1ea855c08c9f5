/- Texts of the proof that ParseBrackets holds, part 6; no conditions. -/
import Derived.Test.YtminbehofnnhmaaGreatDoorPB02
import Derived.Test.YtminbehofnnhmaaGreatDoorPB05
import Derived.Lib.ItoaLen
import Derived.Test.YtminbehofnnhmaaGreatDoorPB03
import Derived.Lib.AppendIntMem
import Derived.Deep.RegionHeld3
import Derived.Test.YtminbehofnnhmaaGreatDoorPB00
namespace Go.Proofs.YtminbehofnnhmaaGreatDoor
set_option linter.unusedVariables false
set_option linter.unusedSimpArgs false
set_option maxHeartbeats 8000000
set_option maxRecDepth 100000
section
open Go.RowKit Go.Maps
def kidsS {σ : Type} (f : σ → Ex → Bool × σ) : σ → List Ex → Bool × σ
 | s, [] => (true, s)
 | s, y :: r => if (f s y).1 then kidsS f (f s y).2 r else (false, (f s y).2)
def finS {σ : Type} (vis : σ → Ex → Int → Bool × σ) (d : Int) (r : Bool × σ) (x : Ex) : Bool × σ := if r.1 then vis r.2 x d else (false, r.2)
def walkS {σ : Type} (vis : σ → Ex → Int → Bool × σ) : Nat → σ → Ex → Bool × σ
 | 0, s, x => finS vis 13 (kidsS (fun s _ => (false, s)) s x.kids) x
 | n + 1, s, x => finS vis (12 - n) (kidsS (walkS vis n) s x.kids) x
def subS {σ : Type} (vis : σ → Ex → Int → Bool × σ) : Nat → σ → Ex → Bool × σ
 | 0 => fun s _ => (false, s)
 | n + 1 => walkS vis n
theorem walkS_eq {σ : Type} (vis : σ → Ex → Int → Bool × σ) (n : Nat) (s : σ) (x : Ex) : walkS vis n s x = finS vis (13 - n) (kidsS (subS vis n) s x.kids) x := by
 cases n with
 | zero => rfl
 | succ n =>
   have e : (13 - ((n + 1 : Nat) : Int)) = 12 - n := by omega
   rw [e]
   rfl
def formedS (x : Ex) : Bool := (walkS (fun (_ : Unit) x d => (formB x d, ())) 12 () x).1
theorem kidsS_snoc {σ : Type} (f : σ → Ex → Bool × σ) (s : σ) (l : List Ex) (y : Ex) : kidsS f s (l ++ [y]) = if (kidsS f s l).1 then (if (f (kidsS f s l).2 y).1 then (true, (f (kidsS f s l).2 y).2) else (false, (f (kidsS f s l).2 y).2)) else kidsS f s l := by
 induction l generalizing s with
 | nil => cases hf : (f s y).1 <;> simp [kidsS, hf]
 | cons z l ih =>
   simp only [List.cons_append, kidsS]
   split
   · exact ih _
   · simp
theorem kidsS_stop {σ : Type} (f : σ → Ex → Bool × σ) (s : σ) (l r : List Ex) (h : (kidsS f s l).1 = false) : kidsS f s (l ++ r) = kidsS f s l := by
 induction l generalizing s with
 | nil => simp [kidsS] at h
 | cons z l ih =>
   simp only [List.cons_append, kidsS] at h ⊢
   split
   · rename_i hz
     rw [if_pos hz] at h
     exact ih _ h
   · rfl
theorem Exs.at {W : World} {l : List Ex} {v : Value} (h : Exs W l v) : ∃ (b o c : Nat) (p : Option Addr), v = .slice p l.length c ∧ l.length ≤ 9223372036854775807 ∧ (0 < l.length → p = some ⟨b, o, none⟩) ∧
 ∀ (i : Nat) (hi : i < l.length), ∃ pl cl pa ca, Lbl W l[i].lab (.slice pl l[i].lab.length cl) ∧ Exs W l[i].kids (.slice pa l[i].kids.length ca) ∧
   W.cell? ⟨b, o + i * 7, none⟩ = some (.int .i64 l[i].kind) ∧ W.cell? ⟨b, o + i * 7 + 1, none⟩ = some (.int .i64 l[i].at_) ∧ W.cell? ⟨b, o + i * 7 + 2, none⟩ = some (.int .i64 l[i].num) ∧ W.cell? ⟨b, o + i * 7 + 3, none⟩ = some (.int .i64 l[i].ty) ∧
   W.cell? ⟨b, o + i * 7 + 4, none⟩ = some (.string l[i].name) ∧ W.cell? ⟨b, o + i * 7 + 5, none⟩ = some (.slice pl l[i].lab.length cl) ∧ W.cell? ⟨b, o + i * 7 + 6, none⟩ = some (.slice pa l[i].kids.length ca) := by
 obtain ⟨p, c, e, h1, h2, h3⟩ := h
 rcases h3 with rfl | ⟨b, o, hp, h3⟩
 · exact ⟨0, 0, c, p, e, by simp, fun h => absurd h (by simp), fun i hi => absurd hi (by simp)⟩
 · refine ⟨b, o, c, p, e, by unfold maxLen at h2; omega, fun _ => hp, fun i hi => ?_⟩
   obtain ⟨vs, g1, g2, g3⟩ := h3 i hi
   obtain ⟨vl, va, e2, hl, ha⟩ := exE_out g1
   obtain ⟨pl, cl, rfl, q1, q2, q3⟩ := hl
   obtain ⟨pa, ca, rfl, r1, r2, r3⟩ := ha
   subst e2
   refine ⟨pl, cl, pa, ca, ⟨pl, cl, rfl, q1, q2, q3⟩, ⟨pa, ca, rfl, r1, r2, r3⟩, ?_, ?_, ?_, ?_, ?_, ?_, ?_⟩
   · simpa using g3 0 _ rfl
   · simpa using g3 1 _ rfl
   · simpa using g3 2 _ rfl
   · simpa using g3 3 _ rfl
   · simpa using g3 4 _ rfl
   · simpa using g3 5 _ rfl
   · simpa using g3 6 _ rfl
theorem form_calls (x : Ex) (v : Value) (deep : Int) (w : World) (hx : ExIs w x v) (ht : Tab w) : Calls Tryz.prog 61 #[v, .int .i64 deep] w fun e w' => e = .returned (.bool (formB x deep)) ∧ Below w.heap.size w w' := by
 obtain ⟨kind, at_, n, ty, name, l, a⟩ := x
 obtain ⟨vl, va, rfl, hl, ha⟩ := hx
 obtain ⟨pl, cl, rfl, h3⟩ := hl
 obtain ⟨pa, ca, rfl, _⟩ := ha
 have hl : Lbl w l (.slice pl l.length cl) := ⟨pl, cl, rfl, h3⟩
 by_cases h1 : kind = 1
 · subst h1; exact form_1 at_ n ty name l pl cl pa a.length ca deep w hl ht
 by_cases h2 : kind = 2
 · subst h2; exact form_2 at_ n ty name l pl cl pa a.length ca deep w hl ht
 by_cases h3 : kind = 3
 · subst h3; exact form_3 at_ n ty name l pl cl pa a.length ca deep w hl ht
 by_cases h4 : kind = 4
 · subst h4; exact form_4 at_ n ty name l pl cl pa a.length ca deep w hl ht
 by_cases h5 : kind = 5
 · subst h5; exact form_5 at_ n ty name l pl cl pa a.length ca deep w hl ht
 have := form_0 at_ n ty name l pl cl pa a.length ca deep w kind ⟨h1, h2, h3, h4, h5⟩ hl ht
 have e : formB (.mk kind at_ n ty name l a) deep = false := by
  unfold formB
  rw [if_neg (show ¬ (Ex.mk kind at_ n ty name l a).kind = 1 from h1), if_neg (show ¬ (Ex.mk kind at_ n ty name l a).kind = 2 from h2), if_neg (show ¬ (Ex.mk kind at_ n ty name l a).kind = 3 from h3), if_neg (show ¬ (Ex.mk kind at_ n ty name l a).kind = 4 from h4), if_neg (show ¬ (Ex.mk kind at_ n ty name l a).kind = 5 from h5)]
 rw [e]
 exact this
def Visits {σ : Type} (C : Nat) (fn : FuncId) (cap : Array Value) (I : σ → World → Prop) (vis : σ → Ex → Int → Bool × σ) : Prop :=
 ∀ (s : σ) (W : World) (x : Ex) (v : Value) (deep : Int), 1 ≤ deep → deep ≤ 13 → C < W.heap.size → I s W → ExIs (mask C W) x v →
   Calls Tryz.prog fn (#[v, .int .i64 deep] ++ cap) W fun e w' => e = .returned (.bool (vis s x deep).1) ∧ Aside1 C W w' ∧ I (vis s x deep).2 w'
theorem kidsS_at {σ : Type} {f : σ → Ex → Bool × σ} {s s' : σ} {l : List Ex} {k : Nat} (hk : k < l.length) (h : kidsS f s (l.take k) = (true, s')) :
 kidsS f s (l.take (k + 1)) = f s' l[k] ∧ ((f s' l[k]).1 = false → kidsS f s l = f s' l[k]) := by
 have e : l.take (k + 1) = l.take k ++ [l[k]] := by rw [List.take_succ_eq_append_getElem hk]
 have h1 : kidsS f s (l.take (k + 1)) = f s' l[k] := by
  rw [e, kidsS_snoc, h]
  cases hf : f s' l[k] with
  | mk b s2 => cases b <;> simp
 refine ⟨h1, fun hb => ?_⟩
 have := kidsS_stop f s (l.take (k + 1)) (l.drop (k + 1)) (by rw [h1]; exact hb)
 rw [List.take_append_drop, h1] at this
 exact this
theorem walk_step {σ : Type} {C : Nat} {fn : FuncId} {cap : Array Value} {I : σ → World → Prop} {vis : σ → Ex → Int → Bool × σ} (hv : Visits C fn cap I vis) (eg : ∀ args w, (callFunc fn args).run Tryz.prog w = .ok (.enter fn args) w)
 (hI : ∀ s W W', I s W → Below W.heap.size W W' → C < W.heap.size → I s W') (n : Nat) (hn : n ≤ 12)
 (ih : ∀ (m : Nat), n = m + 1 → ∀ (s : σ) (w : World) (x : Ex) (v : Value), C < w.heap.size → I s w → ExIs (mask C w) x v →
   Calls Tryz.prog 60 #[v, .int .i64 (13 - (m : Int)), .func (.func fn) #[] cap] w fun e w' => e = .returned (.bool (subS vis n s x).1) ∧ Aside1 C w w' ∧ I (subS vis n s x).2 w')
 (s : σ) (w : World) (x : Ex) (v : Value) (hC : C < w.heap.size) (hs : I s w) (hx : ExIs (mask C w) x v) (D : Int) (hD : D = 13 - n) :
  Calls Tryz.prog 60 #[v, .int .i64 D, .func (.func fn) #[] cap] w fun e w' => e = .returned (.bool (walkS vis n s x).1) ∧ Aside1 C w w' ∧ I (walkS vis n s x).2 w' := by
 have hx0 := hx
 obtain ⟨vl, va, rfl, hl, ha⟩ := hx
 obtain ⟨pl, cl, rfl, _⟩ := hl
 obtain ⟨b, o, c, p, rfl, hmax, hp, hkids⟩ := ha.at
 obtain ⟨W1, eW⟩ : ∃ W1, w.alloc (.cells #[.int .i64 x.kind, .int .i64 x.at_, .int .i64 x.num, .int .i64 x.ty, .string x.name, .slice pl x.lab.length cl, .slice p x.kids.length c] 26) = W1 := ⟨_, rfl⟩
 have hb1 : Below w.heap.size w W1 := by rw [← eW]; exact (Below.refl _ _).alloc (Nat.le_refl _) _
 have hB1 : Blk W1 w.heap.size (exC x (.slice pl x.lab.length cl) (.slice p x.kids.length c)) 26 := by rw [← eW]; exact Blk.new _ _ _
 obtain ⟨q0, q1, q2, q3, q4, q5, q6⟩ := hB1.cells7
 have HB1 := Hd hB1
 have HC1 : Hid (C < W1.heap.size) := Nat.lt_of_lt_of_le hC hb1.size
 have HNE : Hid (w.heap.size ≠ C) := by unfold Hid; omega
 have HA1 := Hd (aside_below (B := C) hb1)
 have HX1 : Hid (∀ W, Aside1 C W1 W → ExIs (mask C W) x (.agg #[.int .i64 x.kind, .int .i64 x.at_, .int .i64 x.num, .int .i64 x.ty, .string x.name, .slice pl x.lab.length cl, .slice p x.kids.length c])) := fun W h => hx0.stays (((aside_below hb1).trans h).keeps)
 have HKD : Hid (∀ W, Aside1 C W1 W → ∀ (i : Nat) (hi : i < x.kids.length), ∃ pl cl pa ca, ExIs (mask C W) x.kids[i] (.agg #[.int .i64 x.kids[i].kind, .int .i64 x.kids[i].at_, .int .i64 x.kids[i].num, .int .i64 x.kids[i].ty, .string x.kids[i].name, .slice pl x.kids[i].lab.length cl, .slice pa x.kids[i].kids.length ca]) ∧
  W.cell? ⟨b, o + i * 7, none⟩ = some (.int .i64 x.kids[i].kind) ∧ W.cell? ⟨b, o + i * 7 + 1, none⟩ = some (.int .i64 x.kids[i].at_) ∧ W.cell? ⟨b, o + i * 7 + 2, none⟩ = some (.int .i64 x.kids[i].num) ∧ W.cell? ⟨b, o + i * 7 + 3, none⟩ = some (.int .i64 x.kids[i].ty) ∧
  W.cell? ⟨b, o + i * 7 + 4, none⟩ = some (.string x.kids[i].name) ∧ W.cell? ⟨b, o + i * 7 + 5, none⟩ = some (.slice pl x.kids[i].lab.length cl) ∧ W.cell? ⟨b, o + i * 7 + 6, none⟩ = some (.slice pa x.kids[i].kids.length ca)) := fun W h i hi => by
  have hk := ((aside_below (B := C) hb1).trans h).keeps
  have hm := mask_keeps C W
  obtain ⟨pl, cl, pa, ca, g1, g2, g3, g4, g5, g6, g7, g8, g9⟩ := hkids i hi
  exact ⟨pl, cl, pa, ca, ⟨_, _, rfl, g1.stays hk, g2.stays hk⟩, hm.2 _ _ _ (hk.2 _ _ _ g3), hm.2 _ _ _ (hk.2 _ _ _ g4), hm.2 _ _ _ (hk.2 _ _ _ g5), hm.2 _ _ _ (hk.2 _ _ _ g6), hm.2 _ _ _ (hk.2 _ _ _ g7), hm.2 _ _ _ (hk.2 _ _ _ g8), hm.2 _ _ _ (hk.2 _ _ _ g9)⟩
 have HS1 := Hd (hI s w W1 hs hb1 hC)
 have HIB := Hd hI
 have HV := Hd hv
 have HIH := Hd ih
 have HW : Hid (walkS vis n s x = finS vis (13 - n) (kidsS (subS vis n) s x.kids) x) := walkS_eq vis n s x
 have HP := Hd hp
 have HDN := Hd hD
 have HN := Hd hn
 clear hx0 hB1 hb1 hkids hp hs ha hC hI hv ih hD hn
 go_enter Tryz.func60, Tryz.ntmps60
 go_wp2_with (fail)
 clear q0 q1 q2 q3 q4 q5 q6 eW
 go_loopw [8, 12] (fun _ i ws => ∃ (k : Nat) (wo : World) (s' : σ), k ≤ x.kids.length ∧ i = .int .i64 k ∧ wo = ws ∧ Hid (Aside1 C W1 wo) ∧ Hid (I s' wo) ∧ Hid (kidsS (subS vis n) s (x.kids.take k) = (true, s'))) (fun _ i _ => x.kids.length - (intOf i).toNat)
 case atStart => exact ⟨0, _, s, Nat.zero_le _, rfl, rfl, Aside1.refl _ _, HS1.out, by simp [kidsS, Hid]⟩
 case round =>
  obtain ⟨k, wo, s', hk, rfl, rfl, HA, HS, HT⟩ := hrel
  have HA1' := Hd (HA1.out.trans HA.out)
  by_cases hlt : k < x.kids.length
  · obtain ⟨pl', cl', pa', ca', hy, g0, g1, g2, g3, g4, g5, g6⟩ := HKD.out wo HA.out k hlt
    obtain ⟨ht1, ht2⟩ := kidsS_at hlt HT.out
    have HT1 := Hd ht1
    have HT2 := Hd ht2
    obtain rfl := HP.out (by omega)
    have hki : (k : Int) < (x.kids.length : Int) := by omega
    have hk0 : (0 : Int) ≤ (k : Int) := by omega
    have hkm : (k : Int) + 1 ≤ 9223372036854775807 := by omega
    generalize x.kids[k] = y at *
    obtain ⟨W2, eW2⟩ : ∃ W2, wo.alloc (.cells #[.int .i64 y.kind, .int .i64 y.at_, .int .i64 y.num, .int .i64 y.ty, .string y.name, .slice pl' y.lab.length cl', .slice pa' y.kids.length ca'] 26) = W2 := ⟨_, rfl⟩
    have hb2 : Below wo.heap.size wo W2 := by rw [← eW2]; exact (Below.refl _ _).alloc (Nat.le_refl _) _
    have hB2 : Blk W2 wo.heap.size (exC y (.slice pl' y.lab.length cl') (.slice pa' y.kids.length ca')) 26 := by rw [← eW2]; exact Blk.new _ _ _
    have HC2 : Hid (C < wo.heap.size ∧ C < W2.heap.size) := by have h1 := HC1.out; have h2 := HA.out.size; have h3 := hb2.size; unfold Hid; omega
    have HA2 := Hd (HA.out.trans (aside_below hb2))
    have HS2 := Hd (HIB.out _ _ _ HS.out hb2 HC2.out.1)
    have HY2 := Hd (hy.stays (aside_below (B := C) hb2).keeps)
    obtain ⟨c0, c1, c2, c3, c4, c5, c6⟩ := hB2.cells7
    have HHK := Hd hk
    have HLT := Hd hlt
    clear hb2 hB2 hy ht1 ht2 hk hlt
    cases n with
    | zero =>
      have hD : (12 : Int) < D := by have h1 := HDN.out; omega
      have HE : Hid (walkS vis 0 s x = (false, s')) := by
       unfold Hid
       rw [HW.out, HT2.out rfl]
       rfl
      go_wp2_with (fail)
      go_ret
      rw [HE.out]
      exact ⟨rfl, HA1.out.trans HA2.out, HS2.out⟩
    | succ m =>
      have hD : ¬ (12 : Int) < D := by have h1 := HDN.out; omega
      have hDm : D + 1 ≤ 9223372036854775807 := by have h1 := HDN.out; omega
      have hDw : IntKind.i64.wrap (D + 1) = D + 1 := by have h1 := HDN.out; have h2 := HN.out; rw [IntKind.wrap_i64]; omega
      have hcall := HIH.out m rfl s' W2 y _ HC2.out.2 HS2.out HY2.out
      rw [show (13 - (m : Int)) = D + 1 from by have h1 := HDN.out; omega] at hcall
      have HCALL := Hd hcall
      clear hcall
      cases hf : subS vis (m + 1) s' y with
      | mk bb s2 =>
      rw [hf] at HCALL HT1 HT2
      clear hf
      cases bb with
      | true =>
        go_wp2_with (fail)
        refine HCALL.out.mono ?_
        rintro e w3 ⟨rfl, ha3, hs3⟩
        have HA3 := Hd (HA2.out.trans ha3)
        have HS3 := Hd hs3
        clear ha3 hs3
        go_wp2_with (fail)
        go_roundw
        case rel => exact ⟨k + 1, _, s2, by have h1 := HLT.out; omega, by go_num, rfl, HA3.out, HS3.out, HT1.out⟩
        case measure => have h1 := HLT.out; simp [intOf]; omega
      | false =>
        have HE : Hid (walkS vis (m + 1) s x = (false, s2)) := by
         unfold Hid
         rw [HW.out, HT2.out rfl]
         rfl
        go_wp2_with (fail)
        refine HCALL.out.mono ?_
        rintro e w3 ⟨rfl, ha3, hs3⟩
        have HA3 := Hd (HA1.out.trans (HA2.out.trans ha3))
        have HS3 := Hd hs3
        clear ha3 hs3
        go_wp2_with (fail)
        go_ret
        rw [HE.out]
        exact ⟨rfl, HA3.out, HS3.out⟩
  · have hke : k = x.kids.length := by omega
    have HE : Hid (walkS vis n s x = vis s' x D) := by
     unfold Hid
     have h1 := HT.out
     rw [hke, List.take_length] at h1
     rw [HW.out, h1, HDN.out]
     rfl
    have HVC := Hd (HV.out s' wo x _ D (by have h1 := HDN.out; have h2 := HN.out; omega) (by have h1 := HDN.out; omega) (Nat.lt_of_lt_of_le HC1.out HA.out.size) HS.out (HX1.out wo HA.out))
    obtain ⟨q0, q1, q2, q3, q4, q5, q6⟩ := (HB1.out.aside HA.out HNE.out).cells7
    have hki : ¬ (k : Int) < (x.kids.length : Int) := by omega
    clear hke
    go_wp2_with (fail)
    refine HVC.out.mono ?_
    rintro e w3 ⟨rfl, ha3, hs3⟩
    have HA3 := Hd (HA1'.out.trans ha3)
    have HS3 := Hd hs3
    clear ha3 hs3
    go_wp2_with (fail)
    go_ret
    rw [HE.out]
    exact ⟨rfl, HA3.out, HS3.out⟩
theorem walk_calls {σ : Type} {C : Nat} {fn : FuncId} {cap : Array Value} {I : σ → World → Prop} {vis : σ → Ex → Int → Bool × σ} (hv : Visits C fn cap I vis) (eg : ∀ args w, (callFunc fn args).run Tryz.prog w = .ok (.enter fn args) w)
 (hI : ∀ s W W', I s W → Below W.heap.size W W' → C < W.heap.size → I s W') : ∀ (n : Nat), n ≤ 12 → ∀ (s : σ) (w : World) (x : Ex) (v : Value), C < w.heap.size → I s w → ExIs (mask C w) x v →
  Calls Tryz.prog 60 #[v, .int .i64 (13 - (n : Int)), .func (.func fn) #[] cap] w fun e w' => e = .returned (.bool (walkS vis n s x).1) ∧ Aside1 C w w' ∧ I (walkS vis n s x).2 w' := by
 intro n
 induction n with
 | zero => intro hn s w x v hC hs hx; exact walk_step hv eg hI 0 hn (fun m e => absurd e (by omega)) s w x v hC hs hx _ rfl
 | succ n ih =>
   intro hn s w x v hC hs hx
   refine walk_step hv eg hI (n + 1) hn (fun m e s w x v hC hs hx => ?_) s w x v hC hs hx _ rfl
   obtain rfl : n = m := by omega
   exact ih (by omega) s w x v hC hs hx
end
section
open Go.RowKit Go.Maps
theorem visits_form (C : Nat) : Visits (σ := Unit) C 61 #[] (fun _ W => Tab (mask C W)) (fun _ x d => (formB x d, ())) := by
 intro s W x v deep h1 h2 hC hI hx
 have := form_calls x v deep W (hx.stays (mask_keeps C W)) hI.bare
 simp only [Array.append_empty]
 refine this.mono ?_
 rintro e w' ⟨rfl, hb⟩
 exact ⟨rfl, aside_below hb, hI.aside (aside_below hb)⟩
theorem tab_mask {w w' : World} {C : Nat} (h : Tab w) (hC : w.heap.size ≤ C) (hb : Below w.heap.size w w') : Tab (mask C w') := tab_same h fun hl => by
 rw [mask_at (by omega), hb.block _ hl]
theorem mask_new {w w' : World} {C : Nat} (hC : w.heap.size ≤ C) (hb : Below w.heap.size w w') : Keeps w (mask C w') :=
 ⟨by rw [mask_size]; exact hb.size, fun b o v hv => by
   have h1 := cell_lt hv
   rw [mask_cell, if_neg (by omega), World.cell?_of_block (a := ⟨b, o, none⟩) (hb.block b h1)]
   exact hv⟩
theorem below_of_aside {w W1 w' : World} (hb : Below w.heap.size w W1) {C : Nat} (hC : w.heap.size ≤ C) (ha : Aside1 C W1 w') : Below w.heap.size w w' :=
 ⟨ha.os.trans hb.os, ha.tape.trans hb.tape, ha.output.trans hb.output, Nat.le_trans hb.size ha.size, fun i hi => (ha.block i (Nat.lt_of_lt_of_le hi hb.size) (fun e => by simp at e; omega)).trans (hb.block i hi)⟩
theorem formed_calls (x : Ex) (v : Value) (w : World) (hx : ExIs w x v) (ht : Tab w) : Calls Tryz.prog 17 #[v] w fun e w' => e = .returned (.bool (formedS x)) ∧ Below w.heap.size w w' := by
 have eg : ∀ args w, (callFunc 61 args).run Tryz.prog w = .ok (.enter 61 args) w := enters_at Tryz.func61 (by kernel_rfl) rfl
 have hx0 := hx
 obtain ⟨vl, va, rfl, hl, ha⟩ := hx
 obtain ⟨pl, cl, rfl, _⟩ := hl
 obtain ⟨pa, ca, rfl, _⟩ := ha
 obtain ⟨W1, eW⟩ : ∃ W1, w.alloc (.cells #[.int .i64 x.kind, .int .i64 x.at_, .int .i64 x.num, .int .i64 x.ty, .string x.name, .slice pl x.lab.length cl, .slice pa x.kids.length ca] 26) = W1 := ⟨_, rfl⟩
 have hb1 : Below w.heap.size w W1 := by rw [← eW]; exact (Below.refl _ _).alloc (Nat.le_refl _) _
 have hB1 : Blk W1 w.heap.size (exC x (.slice pl x.lab.length cl) (.slice pa x.kids.length ca)) 26 := by rw [← eW]; exact Blk.new _ _ _
 obtain ⟨q0, q1, q2, q3, q4, q5, q6⟩ := hB1.cells7
 have HW := walk_calls (visits_form w.heap.size) eg (fun s W W' h hb hC => h.aside (aside_below hb)) 12 (Nat.le_refl _) () W1 x _ hB1.lt (tab_mask ht (Nat.le_refl _) hb1) (hx0.stays (mask_new (Nat.le_refl _) hb1))
 have HWH := Hd HW
 have HF : Hid (formedS x = (walkS (fun (_ : Unit) x d => (formB x d, ())) 12 () x).1) := rfl
 generalize (walkS (fun (_ : Unit) x d => (formB x d, ())) 12 () x).1 = b at *
 have HB1 := Hd hb1
 clear hx0 hB1 hb1 ht HW
 go_enter Tryz.func17, Tryz.ntmps17
 go_wp2_with (fail)
 refine HWH.out.mono ?_
 rintro e w2 ⟨rfl, ha2, _⟩
 have HA := Hd (below_of_aside HB1.out (Nat.le_refl _) ha2)
 clear ha2
 go_wp2_with (fail)
 go_ret
 exact ⟨by rw [HF.out]; rfl, HA.out⟩
end
section
open Go.RowKit
def visF : Unit → Ex → Int → Bool × Unit := fun _ x d => (formB x d, ())
def Fm (n : Nat) (x : Ex) : Prop := (walkS visF n () x).1 = true
theorem formedS_fm {x : Ex} : formedS x = true ↔ Fm 12 x := Iff.rfl
theorem kidsS_all {f : Unit → Ex → Bool × Unit} {s : Unit} : ∀ {l : List Ex}, (kidsS f s l).1 = true → ∀ y ∈ l, (f () y).1 = true := by
 intro l
 induction l generalizing s with
 | nil => intro _ y hy; cases hy
 | cons z l ih =>
   intro h y hy
   simp only [kidsS] at h
   split at h
   · rename_i hz
     rcases List.mem_cons.1 hy with rfl | hy
     · exact hz
     · exact ih h y hy
   · cases h
theorem Fm.parts {n : Nat} {x : Ex} (h : Fm n x) : formB x (13 - n) = true ∧ (kidsS (subS visF n) () x.kids).1 = true := by
 unfold Fm at h
 rw [walkS_eq] at h
 unfold finS at h
 split at h
 · rename_i hk
   exact ⟨h, hk⟩
 · cases h
theorem Fm.form {n : Nat} {x : Ex} (h : Fm n x) : formB x (13 - n) = true := h.parts.1
theorem Fm.kids {n : Nat} {x : Ex} (h : Fm (n + 1) x) : ∀ y ∈ x.kids, Fm n y := kidsS_all h.parts.2
theorem Fm.none {x : Ex} (h : Fm 0 x) : x.kids = [] := by
 have := kidsS_all h.parts.2
 cases hx : x.kids with
 | nil => rfl
 | cons y l => exact absurd (this y (by rw [hx]; simp)) (by simp [subS])
theorem form_ways {x : Ex} {d : Int} (h : formB x d = true) :
 (x.kind = 1 ∧ x.kids.length = 0 ∧ x.name = ⟨#[]⟩ ∧ x.lab.length = 0 ∧ (x.ty = 1 ∧ 0 ≤ x.num ∧ x.num ≤ 999999999 ∨ x.ty = 2 ∧ (x.num = 0 ∨ x.num = 1))) ∨
 (x.kind = 2 ∧ isName x.name = true ∧ x.kids.length = 0 ∧ x.lab.length = 0 ∧ x.num = 0 ∧ x.ty = 0) ∨
 (x.kind = 3 ∧ (x.kids.length = 1 ∧ (x.name = tMinus ∨ x.name = tNot) ∨ x.kids.length = 2 ∧ 0 < levelT x.name) ∧ x.lab.length = 0 ∧ x.num = 0 ∧ x.ty = 0) ∨
 (x.kind = 4 ∧ isName x.name = true ∧ x.kids.length ≤ 4 ∧ x.lab.length = 0 ∧ x.num = 0 ∧ x.ty = 0) ∨
 (x.kind = 5 ∧ x.kids.length = 1 ∧ x.name = ⟨#[]⟩ ∧ fitsB x.lab = true ∧ x.num = 0 ∧ x.ty = 0) := by
 unfold formB at h
 split at h
 · rename_i hk
   simp only [Bool.and_eq_true, Bool.or_eq_true, decide_eq_true_eq, beq_iff_eq] at h
   obtain ⟨⟨⟨⟨h1, h2⟩, h3⟩, h4⟩, h5⟩ := h
   refine .inl ⟨hk, by omega, h3, by omega, ?_⟩
   rcases h5 with ⟨⟨a, b⟩, c⟩ | ⟨a, b⟩
   · exact .inl ⟨a, b, c⟩
   · exact .inr ⟨a, b⟩
 split at h
 · rename_i hk
   simp only [Bool.and_eq_true, Bool.or_eq_true, decide_eq_true_eq, beq_iff_eq] at h
   obtain ⟨⟨⟨⟨⟨h1, h2⟩, h3⟩, h4⟩, h5⟩, h6⟩ := h
   exact .inr (.inl ⟨hk, h2, by omega, by omega, h4, h5⟩)
 split at h
 · rename_i hk
   simp only [Bool.and_eq_true, Bool.or_eq_true, decide_eq_true_eq, beq_iff_eq] at h
   obtain ⟨⟨⟨⟨h1, h2⟩, h3⟩, h4⟩, h5⟩ := h
   refine .inr (.inr (.inl ⟨hk, ?_, by omega, h3, h4⟩))
   rcases h2 with ⟨a, b⟩ | ⟨a, b⟩
   · exact .inl ⟨by omega, b⟩
   · exact .inr ⟨by omega, b⟩
 split at h
 · rename_i hk
   simp only [Bool.and_eq_true, Bool.or_eq_true, decide_eq_true_eq, beq_iff_eq] at h
   obtain ⟨⟨⟨⟨⟨h1, h2⟩, h3⟩, h4⟩, h5⟩, h6⟩ := h
   exact .inr (.inr (.inr (.inl ⟨hk, h2, by omega, by omega, h4, h5⟩)))
 split at h
 · rename_i hk
   simp only [Bool.and_eq_true, Bool.or_eq_true, decide_eq_true_eq, beq_iff_eq] at h
   obtain ⟨⟨⟨⟨⟨h1, h2⟩, h3⟩, h4⟩, h5⟩, h6⟩ := h
   exact .inr (.inr (.inr (.inr ⟨hk, by omega, h3, h6, h4, h5⟩)))
 · cases h
theorem isName_size {s : Txt} (h : isName s = true) : s.size ≤ 12 := by
 unfold isName at h
 simp only [Bool.and_eq_true, decide_eq_true_eq] at h
 exact h.1.1.2
theorem levelT_size {s : Txt} (h : 0 < levelT s) : s.size ≤ 2 := by
 unfold levelT at h
 split at h
 · rename_i e; rw [e]; decide
 split at h
 · rename_i e; rw [e]; decide
 split at h
 · rename_i e; exact (by decide : ∀ t ∈ ([⟨#[61, 61]⟩, ⟨#[33, 61]⟩, ⟨#[60]⟩, ⟨#[60, 61]⟩, ⟨#[62]⟩, ⟨#[62, 61]⟩] : List Txt), t.size ≤ 2) _ e
 split at h
 · rename_i e; exact (by decide : ∀ t ∈ ([⟨#[43]⟩, ⟨#[45]⟩] : List Txt), t.size ≤ 2) _ e
 split at h
 · rename_i e; exact (by decide : ∀ t ∈ ([⟨#[42]⟩, ⟨#[47]⟩, ⟨#[37]⟩] : List Txt), t.size ≤ 2) _ e
 · omega
theorem textsP_len (l : List Ex) (t d : Int) : (textsP l t d).length = l.length := by
 induction l generalizing t with
 | nil => rfl
 | cons x l ih => simp only [textsP, List.length_cons, ih]
theorem textsP_mem {l : List Ex} {t d : Int} {s : Txt} (h : s ∈ textsP l t d) : ∃ y ∈ l, ∃ t', s = textP y t' := by
 induction l generalizing t with
 | nil => cases h
 | cons x l ih =>
   simp only [textsP, List.mem_cons] at h
   rcases h with rfl | h
   · exact ⟨x, by simp, _, rfl⟩
   · obtain ⟨y, hy, q⟩ := ih h
     exact ⟨y, by simp [hy], q⟩
theorem printS_size (l : Lab) : (printS l).size ≤ 18402 := by
 unfold printS
 split
 · simp
 · rename_i h
   have hl : longL l = false := by simpa using h
   have h1 : ¬ 200 < l.length := fun e => by rw [long_many e] at hl; cases hl
   have h2 : ∀ p ∈ l, longP p = false := fun p hp => by
    cases hp2 : longP p with
    | false => rfl
    | true =>
      obtain ⟨k, hk, rfl⟩ := List.getElem_of_mem hp
      rw [long_at hk hp2] at hl
      cases hl
   unfold printT
   rw [ByteArray.size_append, ByteArray.size_append, joinT_size]
   have h3 := join_len (l.map polT) semiT 91 (fun s hs => by
    obtain ⟨p, hp, rfl⟩ := List.mem_map.1 hs
    exact polT_size (h2 p hp))
   rw [List.length_map] at h3
   have e1 : openT.size = 1 := rfl
   have e2 : shutT.size = 1 := rfl
   have e3 : semiT.size = 1 := rfl
   rw [e3] at h3
   have h4 : l.length * (91 + 1) ≤ 200 * 92 := Nat.mul_le_mul (by omega) (by omega)
   omega
def lim : Nat → Nat
 | 0 => 18500
 | n + 1 => 4 * lim n + 18500
theorem getD_size {l : List Txt} {m : Nat} (h : ∀ s ∈ l, s.size ≤ m) (i : Nat) : (l.getD i ⟨#[]⟩).size ≤ m := by
 rw [List.getD_eq_getElem?_getD]
 cases hi : l[i]? with
 | none => exact Nat.zero_le _
 | some s => exact h s (List.mem_of_getElem? hi)
theorem text_size1 {x : Ex} {d : Int} {m : Nat} (hf : formB x d = true) (hk : ∀ y ∈ x.kids, ∀ t, (textP y t).size ≤ m) (tight : Int) : (textP x tight).size ≤ 4 * m + 18500 := by
 have hw := form_ways hf
 have hm : ∀ t e, ∀ s ∈ textsP x.kids t e, s.size ≤ m := fun t e s hs => by
  obtain ⟨y, hy, t', rfl⟩ := textsP_mem hs
  exact hk y hy t'
 obtain ⟨kind, at_, num, ty, name, l, a⟩ := x
 simp only [Ex.kind, Ex.kids, Ex.name, Ex.lab, Ex.num, Ex.ty] at hw hm hk
 have e1 : tLeft.size = 1 := rfl
 have e2 : tRight.size = 1 := rfl
 rcases hw with ⟨rfl, h1, rfl, h2, h3⟩ | ⟨rfl, h1, h2, h3, h4, h5⟩ | ⟨rfl, h1, h2, h3, h4⟩ | ⟨rfl, h1, h2, h3, h4, h5⟩ | ⟨rfl, h1, h2, h3, h4, h5⟩
 · rw [textP, if_pos rfl]
   split
   · split <;> (refine Nat.le_trans (?_ : _ ≤ 5) (by omega); decide)
   · have h4 : (Lib.itoa num).length ≤ 21 := Lib.itoa_length_le num (by omega) (by omega)
     show (Lib.itoa num).toArray.size ≤ _
     rw [List.size_toArray]
     omega
 · rw [textP, if_neg (by decide), if_pos rfl]
   have := isName_size h1
   omega
 · rw [textP, if_neg (by decide), if_neg (by decide), if_neg (by decide), if_neg (by decide)]
   have hn : name.size ≤ 2 := by
    rcases h1 with ⟨_, rfl | rfl⟩ | ⟨_, h⟩
    · decide
    · decide
    · exact levelT_size h
   split
   · have := getD_size (hm 6 0) 0
     rw [ByteArray.size_append]
     omega
   · have g0 := getD_size (hm (levelT name) 1) 0
     have g1 := getD_size (hm (levelT name) 1) 1
     have eb : blank1.size = 1 := rfl
     unfold quoteT
     split <;> simp only [ByteArray.size_append] <;> omega
 · rw [textP, if_neg (by decide), if_neg (by decide), if_pos rfl]
   have hn := isName_size h1
   have hj := join_len (textsP a 0 0) commaSp m (hm 0 0)
   have ec : commaSp.size = 2 := rfl
   rw [textsP_len, ec] at hj
   have hj2 : a.length * (m + 2) ≤ 4 * (m + 2) := Nat.mul_le_mul h2 (Nat.le_refl _)
   simp only [ByteArray.size_append, joinT_size]
   omega
 · rw [textP, if_neg (by decide), if_neg (by decide), if_neg (by decide), if_pos rfl]
   have g0 := getD_size (hm 0 0) 0
   have hp := printS_size l
   have er : releaseT.size = 8 := rfl
   have et : toT.size = 4 := rfl
   simp only [ByteArray.size_append]
   omega
theorem text_size : ∀ (n : Nat) (x : Ex) (tight : Int), Fm n x → (textP x tight).size ≤ lim n := by
 intro n
 induction n with
 | zero =>
   intro x tight h
   have := text_size1 (m := 0) h.form (fun y hy => by rw [h.none] at hy; cases hy) tight
   exact this
 | succ n ih =>
   intro x tight h
   exact text_size1 h.form (fun y hy t => ih y t (h.kids y hy)) tight
theorem lim_le {n : Nat} (h : n ≤ 12) : lim n ≤ 413867158356 := by
 have : n = 0 ∨ n = 1 ∨ n = 2 ∨ n = 3 ∨ n = 4 ∨ n = 5 ∨ n = 6 ∨ n = 7 ∨ n = 8 ∨ n = 9 ∨ n = 10 ∨ n = 11 ∨ n = 12 := by omega
 rcases this with rfl | rfl | rfl | rfl | rfl | rfl | rfl | rfl | rfl | rfl | rfl | rfl | rfl <;> decide
end
section
open Go.RowKit Go.Maps
theorem textsP_map (l : List Ex) (t : Int) : textsP l t 0 = l.map fun y => textP y t := by
 induction l with
 | nil => rfl
 | cons x l ih =>
   simp only [textsP, List.map_cons, Int.add_zero]
   rw [ih]
theorem levelT_le (s : Txt) : 0 ≤ levelT s ∧ levelT s ≤ 5 := by
 unfold levelT
 split
 · omega
 split
 · omega
 split
 · omega
 split
 · omega
 split <;> omega
theorem below_cell {w w' : World} {a : Addr} {v : Value} (hb : Below w.heap.size w w') (h : w.cell? a = some v) : w'.cell? a = some v := (hb.cell (World.block_lt_of_cell? _ _ h)).trans h
theorem args_size {l : List Ex} (hl4 : l.length ≤ 4) (hsz : ∀ y ∈ l, (textP y 0).size ≤ 413867158356) : (tLeft ++ joinT (textsP l 0 0) commaSp ++ tRight).size ≤ 2000000000000 := by
 have hn : ∀ s ∈ textsP l 0 0, s.size ≤ 413867158356 := fun s hs => by
  rw [textsP_map] at hs
  obtain ⟨y, hy, rfl⟩ := List.mem_map.1 hs
  exact hsz y hy
 have hlen := join_len (textsP l 0 0) commaSp 413867158356 hn
 rw [textsP_len] at hlen
 have e1 : commaSp.size = 2 := rfl
 have hm4 : l.length * (413867158356 + commaSp.size) ≤ 4 * 413867158358 := Nat.mul_le_mul hl4 (by rw [e1]; decide)
 have e2 : tLeft.size = 1 := rfl
 have e3 : tRight.size = 1 := rfl
 rw [ByteArray.size_append, ByteArray.size_append, joinT_size]
 omega
def TextC (w : World) (y : Ex) (t : Int) : Prop := ∀ (W : World) (v : Value), Below w.heap.size w W → ExIs W y v → Calls Tryz.prog 57 #[v, .int .i64 t] W fun e w' => e = .returned (.string (textP y t)) ∧ Below W.heap.size W w'
theorem TextC.later {w w' : World} {y : Ex} {t : Int} (h : TextC w y t) (hb : Below w.heap.size w w') : TextC w' y t := fun W v h1 h2 => h W v (hb.trans (h1.mono hb.size)) h2
theorem textArgs_calls {l : List Ex} {va : Value} {gb : Nat} {w : World} (hl4 : l.length ≤ 4) (hg : w.cell? ⟨gb, 6, none⟩ = some va) (ha : Exs w l va) (hsz : ∀ y ∈ l, (textP y 0).size ≤ 413867158356) (hk : ∀ y ∈ l, TextC w y 0) :
 Calls Tryz.prog 140 #[.pointer (some ⟨gb, 0, none⟩)] w fun e w' => e = .returned (.string (tLeft ++ joinT (textsP l 0 0) commaSp ++ tRight)) ∧ Below w.heap.size w w' := by
 obtain ⟨t0, hi, hz0, hz1, hz2⟩ := info_parts Tryz.info_stringP
 obtain ⟨b, o, c, p, rfl, hmax, hp, hkids⟩ := ha.at
 have HK := Hd hk
 have HKD := Hd hkids
 have HP := Hd hp
 have HSZ := Hd hsz
 have HL4 := Hd hl4
 clear hk hkids hp ha hsz
 go_enter Tryz.func140, Tryz.ntmps140
 go_wp2_with (fail)
 clear hg
 go_loopw [2, 4, 8] (fun lv _ i ws => ∃ (k : Nat) (wo : World) (vv : Value), k ≤ l.length ∧ vv = lv ∧ i = .int .i64 k ∧ wo = ws ∧ Hid (Below w.heap.size w wo) ∧ Hid (wo.ownsRow w.heap.size 9 1 vv k ((l.take k).map fun y => .string (textP y 0)))) (fun _ _ i _ => l.length - (intOf i).toNat)
 case atStart => exact ⟨0, _, _, Nat.zero_le _, rfl, rfl, rfl, Below.refl _ _, World.ownsRow_nil _ _ _ _⟩
 case round =>
  obtain ⟨k, wo, vv, hkl, rfl, rfl, rfl, HB, HO⟩ := hrel
  by_cases hlt : k < l.length
  · obtain ⟨pl', cl', pa', ca', g1, g2, g3, g4, g5, g6, g7, g8, g9⟩ := HKD.out k hlt
    have hbk := keeps_of_below HB.out
    have c0 := hbk.2 _ _ _ g3
    have c1 := hbk.2 _ _ _ g4
    have c2 := hbk.2 _ _ _ g5
    have c3 := hbk.2 _ _ _ g6
    have c4 := hbk.2 _ _ _ g7
    have c5 := hbk.2 _ _ _ g8
    have c6 := hbk.2 _ _ _ g9
    obtain rfl := HP.out (by omega)
    have hki : (k : Int) < (l.length : Int) := by omega
    have hk0 : (0 : Int) ≤ (k : Int) := by omega
    have hkm : (k : Int) + 1 ≤ 9223372036854775807 := by omega
    have hmem : l[k] ∈ l := List.getElem_mem hlt
    have HTK : Hid (l.take (k + 1) = l.take k ++ [l[k]]) := List.take_succ_eq_append_getElem hlt
    have HKY := Hd (HK.out _ hmem)
    generalize l[k] = y at *
    obtain ⟨W2, eW2⟩ : ∃ W2, wo.alloc (.cells #[.int .i64 y.kind, .int .i64 y.at_, .int .i64 y.num, .int .i64 y.ty, .string y.name, .slice pl' y.lab.length cl', .slice pa' y.kids.length ca'] 26) = W2 := ⟨_, rfl⟩
    have hb2 : Below wo.heap.size wo W2 := by rw [← eW2]; exact (Below.refl _ _).alloc (Nat.le_refl _) _
    have hB2 : Blk W2 wo.heap.size (exC y (.slice pl' y.lab.length cl') (.slice pa' y.kids.length ca')) 26 := by rw [← eW2]; exact Blk.new _ _ _
    obtain ⟨d0, d1, d2, d3, d4, d5, d6⟩ := hB2.cells7
    have hbW2 := HB.out.trans (hb2.mono HB.out.size)
    have hk2 := keeps_of_below hbW2
    have HC := Hd (HKY.out W2 (.agg #[.int .i64 y.kind, .int .i64 y.at_, .int .i64 y.num, .int .i64 y.ty, .string y.name, .slice pl' y.lab.length cl', .slice pa' y.kids.length ca']) hbW2 ⟨_, _, rfl, g1.stays hk2, g2.stays hk2⟩)
    have HBW2 := Hd hbW2
    have HO2 := Hd (own_below HO.out hb2)
    have HLT := Hd hlt
    clear hb2 hB2 g1 g2 g3 g4 g5 g6 g7 g8 g9 hbk hk2 hbW2 hlt hkl hmem HO
    go_wp2_with (fail)
    refine HC.out.mono ?_
    rintro e w3 ⟨rfl, hb3⟩
    have hown := own_below HO2.out hb3
    have HBW3 := Hd (HBW2.out.trans (hb3.mono HBW2.out.size))
    obtain ⟨W4, eW4⟩ : ∃ W4, w3.alloc (.cells #[.string (textP y 0)] 9) = W4 := ⟨_, rfl⟩
    obtain ⟨z4, hb4, m4⟩ := boxes1 eW4
    have hown4 := own_below hown hb4
    have HBW4 := Hd (HBW3.out.trans (hb4.mono HBW3.out.size))
    have hsz4 : w.heap.size ≤ W4.heap.size := HBW4.out.size
    have hl4' := HL4.out
    have hlt' := HLT.out
    obtain ⟨pv, cv, rfl⟩ := own_slice hown4
    clear hb3 hb4 hown
    go_wp2_with (at_builtin; refine wpList_append_own _ rfl _ _ 46 rfl w.heap.size 9 t0 (.string ⟨#[]⟩) 1 16 Tryz.underlying46 hi hz0 hz1 hz2 rfl (by decide) _ _ _ rfl hown4 ⟨w3.heap.size, 0, none⟩ 1 1 [.string (textP y 0)] rfl rfl ?c1 ?c2 ?c3 ?c4 ?c5 ?_)
    case c1 =>
     intro j u hj
     match j, hj with
     | 0, hj =>
       simp at hj
       subst hj
       simp [Addr.add]
       have := m4 0
       simpa using this
    case c2 => intro u hu; simp at hu; subst hu; rfl
    case c3 => unfold maxLen; omega
    case c4 => omega
    case c5 => exact hsz4
    · intro v5 w5 hown5 hg5 _
      have HBW5 : Hid (Below w.heap.size w w5) := HBW4.out.grown hg5 hsz4 (fun q hq => (hown4.lt q hq).1)
      have HO5 : Hid (w5.ownsRow w.heap.size 9 1 v5 (k + 1) ((l.take (k + 1)).map fun y => .string (textP y 0))) := by
       unfold Hid
       rw [HTK.out, List.map_append, List.map_take]
       exact hown5
      clear hown5 hg5 hown4
      go_wp2_with (fail)
      go_roundw
      case rel => exact ⟨k + 1, _, _, by omega, rfl, by go_num, rfl, HBW5.out, HO5.out⟩
      case measure => simp [intOf]; omega
  · obtain rfl : k = l.length := by omega
    have hown := HO.out
    rw [List.take_length] at hown
    have hS : Strs wo (textsP l 0 0) vv := by
     rw [textsP_map]
     exact Strs.of_owns (l := l.map fun y => textP y 0) (by rw [List.length_map, List.map_map]; exact hown)
    have hn : ∀ s ∈ textsP l 0 0, s.size ≤ 413867158356 := fun s hs => by
     rw [textsP_map] at hs
     obtain ⟨y, hy, rfl⟩ := List.mem_map.1 hs
     exact HSZ.out y hy
    have hlen := join_len (textsP l 0 0) commaSp 413867158356 hn
    rw [textsP_len] at hlen
    have e1 : commaSp.size = 2 := rfl
    have hm4 : l.length * (413867158356 + commaSp.size) ≤ 4 * 413867158358 := Nat.mul_le_mul HL4.out (by rw [e1]; decide)
    have HJ : Hid (Calls Tryz.prog 58 #[vv, .string commaSp] wo fun e w' => e = .returned (.string (joinT (textsP l 0 0) commaSp)) ∧ Below wo.heap.size wo w') := join_calls (textsP l 0 0) commaSp vv wo hS (by omega) (by rw [textsP_len]; omega)
    have hs2 : (joinT (textsP l 0 0) commaSp).size ≤ 4 * 413867158358 := by rw [joinT_size]; omega
    generalize hJQ : joinT (textsP l 0 0) commaSp = J at *
    have HJQ := Hd hJQ
    clear hJQ
    obtain ⟨pv, cv, rfl⟩ := own_slice hown
    have hki : ¬ ((l.length : Int)) < (l.length : Int) := by omega
    unfold commaSp at HJ
    clear hS hlen hm4 hn e1 hown
    go_wp2_with (fail)
    refine HJ.out.mono ?_
    rintro e w1 ⟨rfl, hb1⟩
    go_wp2_with (fail)
    go_ret
    exact ⟨by rw [HJQ.out]; rfl, HB.out.trans (hb1.mono HB.out.size)⟩
end
section
open Go.RowKit Go.Maps
abbrev Pow (w : World) : Prop := Lib.TabIs Tryz.prog w "internal/strconv.uint64pow10" .u64 Lib.pow10Tab
theorem Pow.below {w w' : World} (h : Pow w) (hb : Below w.heap.size w w') : Pow w' := by
 have hgn : Tryz.prog.globalNamed "internal/strconv.uint64pow10" = some 3 := by kernel_rfl
 unfold Pow Lib.TabIs World.var? at h ⊢
 rw [hgn] at h ⊢
 simp only [Option.bind_some] at h ⊢
 have hlt : 3 < w.heap.size := by
  rcases Nat.lt_or_ge 3 w.heap.size with h' | h'
  · exact h'
  · rw [Array.getElem?_eq_none h'] at h; cases h
 rw [hb.block _ hlt]
 exact h
theorem itoa_calls (n : Int) (h0 : 0 ≤ n) (h1 : n ≤ 999999999) (w : World) (h : Pow w) : Calls Tryz.prog 142 #[.int .i64 n] w fun e w' => e = .returned (.string ⟨(Lib.itoa n).toArray⟩) ∧ Below w.heap.size w w' := by
 refine (Tryz.strconv_Itoa n (by omega) (by omega) w h).mono ?_
 rintro e w' ⟨rfl, k, os, rfl⟩
 exact ⟨rfl, Lib.below_grow _ _ (Nat.le_refl _) k os⟩
theorem fbool_calls (b : Bool) (w : World) : Calls Tryz.prog 141 #[.bool b] w fun e w' => e = .returned (.string (if b then tTrue else tFalse)) ∧ w' = w := by
 refine (Tryz.strconv_FormatBool b w).mono ?_
 rintro e w' ⟨rfl, rfl⟩
 refine ⟨?_, rfl⟩
 cases b
 · have : (⟨(Lib.formatBool false).toArray⟩ : Txt) = tFalse := by decide +kernel
   rw [this]; rfl
 · have : (⟨(Lib.formatBool true).toArray⟩ : Txt) = tTrue := by decide +kernel
   rw [this]; rfl
theorem text_num (at_ num tight : Int) (name : Txt) (l : Lab) (a : List Ex) (pl : Option Addr) (cl : Nat) (pa : Option Addr) (ca : Nat) (w : World) (h0 : 0 ≤ num) (h1 : num ≤ 999999999) (hpow : Pow w) :
 Calls Tryz.prog 57 #[.agg #[.int .i64 1, .int .i64 at_, .int .i64 num, .int .i64 1, .string name, .slice pl l.length cl, .slice pa a.length ca], .int .i64 tight] w fun e w' => e = .returned (.string (textP (.mk 1 at_ num 1 name l a) tight)) ∧ Below w.heap.size w w' := by
 have hmf := mf_run
 obtain ⟨W1, eW⟩ : ∃ W1, w.alloc (.cells #[.int .i64 1, .int .i64 at_, .int .i64 num, .int .i64 1, .string name, .slice pl l.length cl, .slice pa a.length ca] 26) = W1 := ⟨_, rfl⟩
 have hb1 : Below w.heap.size w W1 := by rw [← eW]; exact (Below.refl _ _).alloc (Nat.le_refl _) _
 have hB : Blk W1 w.heap.size [.int .i64 1, .int .i64 at_, .int .i64 num, .int .i64 1, .string name, .slice pl l.length cl, .slice pa a.length ca] 26 := by rw [← eW]; exact Blk.new _ _ _
 have HQ : Hid (∀ W, Below W1.heap.size W1 W → Blk W w.heap.size [.int .i64 1, .int .i64 at_, .int .i64 num, .int .i64 1, .string name, .slice pl l.length cl, .slice pa a.length ca] 26) := fun W hb => hB.below hb
 obtain ⟨q0, q1, q2, q3, q4, q5, q6⟩ := hB.cells7
 have HBW := Hd hb1
 have HI := Hd (itoa_calls num h0 h1 W1 (hpow.below hb1))
 have HR : Hid (textP (.mk 1 at_ num 1 name l a) tight = ⟨(Lib.itoa num).toArray⟩) := by unfold Hid; rw [textP, if_pos rfl, if_neg (by decide)]
 generalize (⟨(Lib.itoa num).toArray⟩ : Txt) = R at *
 clear hB hb1 h0 h1 hpow
 go_enter Tryz.func57, Tryz.ntmps57
 go_wp2_with (fail)
 refine HI.out.mono ?_
 rintro e w2 ⟨rfl, hb2⟩
 go_wp2_with (fail)
 go_ret
 exact ⟨by rw [HR.out]; rfl, HBW.out.trans (hb2.mono HBW.out.size)⟩
theorem text_true (at_ tight : Int) (name : Txt) (l : Lab) (a : List Ex) (pl : Option Addr) (cl : Nat) (pa : Option Addr) (ca : Nat) (w : World) :
 Calls Tryz.prog 57 #[.agg #[.int .i64 1, .int .i64 at_, .int .i64 1, .int .i64 2, .string name, .slice pl l.length cl, .slice pa a.length ca], .int .i64 tight] w fun e w' => e = .returned (.string (textP (.mk 1 at_ 1 2 name l a) tight)) ∧ Below w.heap.size w w' := by
 have hmf := mf_run
 obtain ⟨W1, eW⟩ : ∃ W1, w.alloc (.cells #[.int .i64 1, .int .i64 at_, .int .i64 1, .int .i64 2, .string name, .slice pl l.length cl, .slice pa a.length ca] 26) = W1 := ⟨_, rfl⟩
 have hb1 : Below w.heap.size w W1 := by rw [← eW]; exact (Below.refl _ _).alloc (Nat.le_refl _) _
 have hB : Blk W1 w.heap.size [.int .i64 1, .int .i64 at_, .int .i64 1, .int .i64 2, .string name, .slice pl l.length cl, .slice pa a.length ca] 26 := by rw [← eW]; exact Blk.new _ _ _
 have HQ : Hid (∀ W, Below W1.heap.size W1 W → Blk W w.heap.size [.int .i64 1, .int .i64 at_, .int .i64 1, .int .i64 2, .string name, .slice pl l.length cl, .slice pa a.length ca] 26) := fun W hb => hB.below hb
 obtain ⟨q0, q1, q2, q3, q4, q5, q6⟩ := hB.cells7
 have HBW := Hd hb1
 have hf := fbool_calls true W1
 simp only [if_true, if_false, Bool.false_eq_true] at hf
 have HI := Hd hf
 have HR : Hid (textP (.mk 1 at_ 1 2 name l a) tight = tTrue) := by unfold Hid; rw [textP, if_pos rfl, if_pos rfl, if_pos rfl]
 clear hB hb1 hf
 go_enter Tryz.func57, Tryz.ntmps57
 go_wp2_with (fail)
 refine HI.out.mono ?_
 rintro e w2 ⟨rfl, rfl⟩
 go_wp2_with (fail)
 go_ret
 exact ⟨by rw [HR.out]; rfl, HBW.out⟩
theorem text_false (at_ tight : Int) (name : Txt) (l : Lab) (a : List Ex) (pl : Option Addr) (cl : Nat) (pa : Option Addr) (ca : Nat) (w : World) :
 Calls Tryz.prog 57 #[.agg #[.int .i64 1, .int .i64 at_, .int .i64 0, .int .i64 2, .string name, .slice pl l.length cl, .slice pa a.length ca], .int .i64 tight] w fun e w' => e = .returned (.string (textP (.mk 1 at_ 0 2 name l a) tight)) ∧ Below w.heap.size w w' := by
 have hmf := mf_run
 obtain ⟨W1, eW⟩ : ∃ W1, w.alloc (.cells #[.int .i64 1, .int .i64 at_, .int .i64 0, .int .i64 2, .string name, .slice pl l.length cl, .slice pa a.length ca] 26) = W1 := ⟨_, rfl⟩
 have hb1 : Below w.heap.size w W1 := by rw [← eW]; exact (Below.refl _ _).alloc (Nat.le_refl _) _
 have hB : Blk W1 w.heap.size [.int .i64 1, .int .i64 at_, .int .i64 0, .int .i64 2, .string name, .slice pl l.length cl, .slice pa a.length ca] 26 := by rw [← eW]; exact Blk.new _ _ _
 have HQ : Hid (∀ W, Below W1.heap.size W1 W → Blk W w.heap.size [.int .i64 1, .int .i64 at_, .int .i64 0, .int .i64 2, .string name, .slice pl l.length cl, .slice pa a.length ca] 26) := fun W hb => hB.below hb
 obtain ⟨q0, q1, q2, q3, q4, q5, q6⟩ := hB.cells7
 have HBW := Hd hb1
 have hf := fbool_calls false W1
 simp only [if_true, if_false, Bool.false_eq_true] at hf
 have HI := Hd hf
 have HR : Hid (textP (.mk 1 at_ 0 2 name l a) tight = tFalse) := by unfold Hid; rw [textP, if_pos rfl, if_pos rfl, if_neg (by decide)]
 clear hB hb1 hf
 go_enter Tryz.func57, Tryz.ntmps57
 go_wp2_with (fail)
 refine HI.out.mono ?_
 rintro e w2 ⟨rfl, rfl⟩
 go_wp2_with (fail)
 go_ret
 exact ⟨by rw [HR.out]; rfl, HBW.out⟩
theorem text_var (at_ num ty tight : Int) (name : Txt) (l : Lab) (a : List Ex) (pl : Option Addr) (cl : Nat) (pa : Option Addr) (ca : Nat) (w : World) :
 Calls Tryz.prog 57 #[.agg #[.int .i64 2, .int .i64 at_, .int .i64 num, .int .i64 ty, .string name, .slice pl l.length cl, .slice pa a.length ca], .int .i64 tight] w fun e w' => e = .returned (.string (textP (.mk 2 at_ num ty name l a) tight)) ∧ Below w.heap.size w w' := by
 have hmf := mf_run
 obtain ⟨W1, eW⟩ : ∃ W1, w.alloc (.cells #[.int .i64 2, .int .i64 at_, .int .i64 num, .int .i64 ty, .string name, .slice pl l.length cl, .slice pa a.length ca] 26) = W1 := ⟨_, rfl⟩
 have hb1 : Below w.heap.size w W1 := by rw [← eW]; exact (Below.refl _ _).alloc (Nat.le_refl _) _
 have hB : Blk W1 w.heap.size [.int .i64 2, .int .i64 at_, .int .i64 num, .int .i64 ty, .string name, .slice pl l.length cl, .slice pa a.length ca] 26 := by rw [← eW]; exact Blk.new _ _ _
 have HQ : Hid (∀ W, Below W1.heap.size W1 W → Blk W w.heap.size [.int .i64 2, .int .i64 at_, .int .i64 num, .int .i64 ty, .string name, .slice pl l.length cl, .slice pa a.length ca] 26) := fun W hb => hB.below hb
 obtain ⟨q0, q1, q2, q3, q4, q5, q6⟩ := hB.cells7
 have HBW := Hd hb1
 have HR : Hid (textP (.mk 2 at_ num ty name l a) tight = name) := by unfold Hid; rw [textP, if_neg (by decide), if_pos rfl]
 clear hB hb1
 go_enter Tryz.func57, Tryz.ntmps57
 go_wp2_with (fail)
 go_ret
 exact ⟨by rw [HR.out]; rfl, HBW.out⟩
theorem text_call (at_ num ty tight : Int) (name : Txt) (l : Lab) (a : List Ex) (pl : Option Addr) (cl : Nat) (pa : Option Addr) (ca : Nat) (w : World) (ha : Exs w a (.slice pa a.length ca)) (hl4 : a.length ≤ 4) (hn12 : name.size ≤ 12) (hsz : ∀ y ∈ a, (textP y 0).size ≤ 413867158356) (hk : ∀ y ∈ a, TextC w y 0) :
 Calls Tryz.prog 57 #[.agg #[.int .i64 4, .int .i64 at_, .int .i64 num, .int .i64 ty, .string name, .slice pl l.length cl, .slice pa a.length ca], .int .i64 tight] w fun e w' => e = .returned (.string (textP (.mk 4 at_ num ty name l a) tight)) ∧ Below w.heap.size w w' := by
 have hmf := mf_run
 obtain ⟨W1, eW⟩ : ∃ W1, w.alloc (.cells #[.int .i64 4, .int .i64 at_, .int .i64 num, .int .i64 ty, .string name, .slice pl l.length cl, .slice pa a.length ca] 26) = W1 := ⟨_, rfl⟩
 have hb1 : Below w.heap.size w W1 := by rw [← eW]; exact (Below.refl _ _).alloc (Nat.le_refl _) _
 have hB : Blk W1 w.heap.size [.int .i64 4, .int .i64 at_, .int .i64 num, .int .i64 ty, .string name, .slice pl l.length cl, .slice pa a.length ca] 26 := by rw [← eW]; exact Blk.new _ _ _
 have HQ : Hid (∀ W, Below W1.heap.size W1 W → Blk W w.heap.size [.int .i64 4, .int .i64 at_, .int .i64 num, .int .i64 ty, .string name, .slice pl l.length cl, .slice pa a.length ca] 26) := fun W hb => hB.below hb
 obtain ⟨q0, q1, q2, q3, q4, q5, q6⟩ := hB.cells7
 have HBW := Hd hb1
 have HA := Hd (textArgs_calls hl4 (below_cell (below_drew1 W1) q6) ((ha.stays (keeps_of_below hb1)).stays (keeps_of_below (below_drew1 W1))) hsz (fun y hy => (hk y hy).later (hb1.trans ((below_drew1 W1).mono hb1.size))))
 have HR : Hid (textP (.mk 4 at_ num ty name l a) tight = name ++ (tLeft ++ joinT (textsP a 0 0) commaSp ++ tRight)) := by unfold Hid; rw [textP, if_neg (by decide), if_neg (by decide), if_pos rfl]
 have hjs : (tLeft ++ joinT (textsP a 0 0) commaSp ++ tRight).size ≤ 2000000000000 := args_size hl4 hsz
 have z4 : W1.drew.cell? ⟨w.heap.size, 4, none⟩ = some (.string name) := below_cell (below_drew1 W1) q4
 generalize (tLeft ++ joinT (textsP a 0 0) commaSp ++ tRight) = J at *
 have hs1 : ¬ 9223372036854775807 < name.size + J.size := by omega
 have HD : Hid (Below W1.heap.size W1 W1.drew) := below_drew1 W1
 clear hB hb1 ha hsz hk hl4
 go_enter Tryz.func57, Tryz.ntmps57
 go_wp2_with (fail)
 go_region_held3 (fun w' => w'.cell? ⟨w.heap.size, 4, none⟩ = some (.string name))
  (first | exact z4 | exact (HQ.out _ HZ3.out).cell 4)
  (first
    | (go_at_call 140
       refine HA.out.mono ?_
       rintro e w3 ⟨rfl, hb3⟩
       have HZ3 : Hid (Below W1.heap.size W1 w3) := HD.out.trans (hb3.mono HD.out.size)))
 all_goals (try go_wp2_with (fail))
 all_goals go_ret
 all_goals exact ⟨by rw [HR.out]; rfl, HBW.out.trans (HZ3.out.mono HBW.out.size)⟩
theorem text_rel (at_ num ty tight : Int) (name : Txt) (l : Lab) (pl : Option Addr) (cl : Nat) (pa : Option Addr) (ca : Nat) (w : World) (y : Ex) (hl : Lbl w l (.slice pl l.length cl)) (ha : Exs w [y] (.slice pa 1 ca)) (hsz : (textP y 0).size ≤ 413867158356) (hk : TextC w y 0) :
 Calls Tryz.prog 57 #[.agg #[.int .i64 5, .int .i64 at_, .int .i64 num, .int .i64 ty, .string name, .slice pl l.length cl, .slice pa 1 ca], .int .i64 tight] w fun e w' => e = .returned (.string (textP (.mk 5 at_ num ty name l [y]) tight)) ∧ Below w.heap.size w w' := by
 have hmf := mf_run
 obtain ⟨W1, eW⟩ : ∃ W1, w.alloc (.cells #[.int .i64 5, .int .i64 at_, .int .i64 num, .int .i64 ty, .string name, .slice pl l.length cl, .slice pa 1 ca] 26) = W1 := ⟨_, rfl⟩
 have hb1 : Below w.heap.size w W1 := by rw [← eW]; exact (Below.refl _ _).alloc (Nat.le_refl _) _
 have hB : Blk W1 w.heap.size [.int .i64 5, .int .i64 at_, .int .i64 num, .int .i64 ty, .string name, .slice pl l.length cl, .slice pa 1 ca] 26 := by rw [← eW]; exact Blk.new _ _ _
 have HQ : Hid (∀ W, Below W1.heap.size W1 W → Blk W w.heap.size [.int .i64 5, .int .i64 at_, .int .i64 num, .int .i64 ty, .string name, .slice pl l.length cl, .slice pa 1 ca] 26) := fun W hb => hB.below hb
 obtain ⟨q0, q1, q2, q3, q4, q5, q6⟩ := hB.cells7
 have HBW := Hd hb1
 obtain ⟨b, o, c, p, e, hmax, hp, hkids⟩ := ha.at
 obtain ⟨rfl, rfl⟩ : pa = p ∧ ca = c := by simpa using e
 obtain rfl := hp (by show 0 < 1; decide)
 have hk0 := hkids 0 (by show 0 < 1; decide)
 simp only [List.getElem_cons_zero] at hk0
 obtain ⟨pl0, cl0, pa0, ca0, g01, g02, g03, g04, g05, g06, g07, g08, g09⟩ := hk0
 have HY0 : Hid (∀ W, Below W1.heap.size W1 W → ExIs W y (.agg #[.int .i64 y.kind, .int .i64 y.at_, .int .i64 y.num, .int .i64 y.ty, .string y.name, .slice pl0 y.lab.length cl0, .slice pa0 y.kids.length ca0])) := fun W hb => ⟨_, _, rfl, (g01.stays (keeps_of_below hb1)).stays (keeps_of_below hb), (g02.stays (keeps_of_below hb1)).stays (keeps_of_below hb)⟩
 have HK0 : Hid (∀ W, Below W1.heap.size W1 W → (W.cell? ⟨b, o, none⟩ = some (.int .i64 y.kind) ∧ W.cell? ⟨b, o + 1, none⟩ = some (.int .i64 y.at_) ∧ W.cell? ⟨b, o + 2, none⟩ = some (.int .i64 y.num) ∧ W.cell? ⟨b, o + 3, none⟩ = some (.int .i64 y.ty) ∧ W.cell? ⟨b, o + 4, none⟩ = some (.string y.name) ∧ W.cell? ⟨b, o + 5, none⟩ = some (.slice pl0 y.lab.length cl0) ∧ W.cell? ⟨b, o + 6, none⟩ = some (.slice pa0 y.kids.length ca0))) := fun W hb => by
  have k1 := keeps_of_below hb1
  have k2 := keeps_of_below hb
  refine ⟨?_, ?_, ?_, ?_, ?_, ?_, ?_⟩
  · simpa using k2.2 _ _ _ (k1.2 _ _ _ g03)
  · simpa using k2.2 _ _ _ (k1.2 _ _ _ g04)
  · simpa using k2.2 _ _ _ (k1.2 _ _ _ g05)
  · simpa using k2.2 _ _ _ (k1.2 _ _ _ g06)
  · simpa using k2.2 _ _ _ (k1.2 _ _ _ g07)
  · simpa using k2.2 _ _ _ (k1.2 _ _ _ g08)
  · simpa using k2.2 _ _ _ (k1.2 _ _ _ g09)
 have HPR := Hd (print_calls l _ W1 (hl.stays (keeps_of_below hb1)))
 have HTX : Hid (∀ W, Below W1.heap.size W1 W → Calls Tryz.prog 57 #[.agg #[.int .i64 y.kind, .int .i64 y.at_, .int .i64 y.num, .int .i64 y.ty, .string y.name, .slice pl0 y.lab.length cl0, .slice pa0 y.kids.length ca0], .int .i64 0] W fun e w' => e = .returned (.string (textP y 0)) ∧ Below W.heap.size W w') := fun W hb => hk W _ (hb1.trans (hb.mono hb1.size)) (HY0.out W hb)
 have HR : Hid (textP (.mk 5 at_ num ty name l [y]) tight = releaseT ++ textP y 0 ++ toT ++ printS l ++ tRight) := by unfold Hid; rw [textP, if_neg (by decide), if_neg (by decide), if_neg (by decide), if_pos rfl]; rfl
 have hps := printS_size l
 generalize printS l = P at *
 generalize printE l = PE at *
 generalize textP y 0 = J at *
 clear hB hb1 ha hk hl e hmax hp hkids g01 g02 g03 g04 g05 g06 g07 g08 g09 HY0
 go_enter Tryz.func57, Tryz.ntmps57
 go_wp2_with (fail)
 refine HPR.out.mono ?_
 rintro e w2 ⟨rfl, hb2⟩
 clear q0 q1 q2 q3 q4 q5 q6
 obtain ⟨q0, q1, q2, q3, q4, q5, q6⟩ := (HQ.out _ hb2).cells7
 obtain ⟨c0, c1, c2, c3, c4, c5, c6⟩ := HK0.out _ hb2
 have HT2 := Hd (HTX.out w2 hb2)
 have HB2 := Hd hb2
 clear hb2
 go_wp2_with (fail)
 refine HT2.out.mono ?_
 rintro e w3 ⟨rfl, hb3⟩
 go_wp2_with (fail)
 go_ret
 exact ⟨by rw [HR.out]; rfl, HBW.out.trans ((HB2.out.trans (hb3.mono HB2.out.size)).mono HBW.out.size)⟩
theorem text_one (at_ num ty tight : Int) (name : Txt) (l : Lab) (pl : Option Addr) (cl : Nat) (pa : Option Addr) (ca : Nat) (w : World) (y : Ex) (ha : Exs w [y] (.slice pa 1 ca)) (hn12 : name.size ≤ 12) (hsz : (textP y 6).size ≤ 413867158356) (hk : TextC w y 6) :
 Calls Tryz.prog 57 #[.agg #[.int .i64 3, .int .i64 at_, .int .i64 num, .int .i64 ty, .string name, .slice pl l.length cl, .slice pa 1 ca], .int .i64 tight] w fun e w' => e = .returned (.string (textP (.mk 3 at_ num ty name l [y]) tight)) ∧ Below w.heap.size w w' := by
 have hmf := mf_run
 obtain ⟨W1, eW⟩ : ∃ W1, w.alloc (.cells #[.int .i64 3, .int .i64 at_, .int .i64 num, .int .i64 ty, .string name, .slice pl l.length cl, .slice pa 1 ca] 26) = W1 := ⟨_, rfl⟩
 have hb1 : Below w.heap.size w W1 := by rw [← eW]; exact (Below.refl _ _).alloc (Nat.le_refl _) _
 have hB : Blk W1 w.heap.size [.int .i64 3, .int .i64 at_, .int .i64 num, .int .i64 ty, .string name, .slice pl l.length cl, .slice pa 1 ca] 26 := by rw [← eW]; exact Blk.new _ _ _
 have HQ : Hid (∀ W, Below W1.heap.size W1 W → Blk W w.heap.size [.int .i64 3, .int .i64 at_, .int .i64 num, .int .i64 ty, .string name, .slice pl l.length cl, .slice pa 1 ca] 26) := fun W hb => hB.below hb
 obtain ⟨q0, q1, q2, q3, q4, q5, q6⟩ := hB.cells7
 have HBW := Hd hb1
 obtain ⟨b, o, c, p, e, hmax, hp, hkids⟩ := ha.at
 obtain ⟨rfl, rfl⟩ : pa = p ∧ ca = c := by simpa using e
 obtain rfl := hp (by show 0 < 1; decide)
 have hk0 := hkids 0 (by show 0 < 1; decide)
 simp only [List.getElem_cons_zero] at hk0
 obtain ⟨pl0, cl0, pa0, ca0, g01, g02, g03, g04, g05, g06, g07, g08, g09⟩ := hk0
 have HY0 : Hid (∀ W, Below W1.heap.size W1 W → ExIs W y (.agg #[.int .i64 y.kind, .int .i64 y.at_, .int .i64 y.num, .int .i64 y.ty, .string y.name, .slice pl0 y.lab.length cl0, .slice pa0 y.kids.length ca0])) := fun W hb => ⟨_, _, rfl, (g01.stays (keeps_of_below hb1)).stays (keeps_of_below hb), (g02.stays (keeps_of_below hb1)).stays (keeps_of_below hb)⟩
 have HK0 : Hid (∀ W, Below W1.heap.size W1 W → (W.cell? ⟨b, o, none⟩ = some (.int .i64 y.kind) ∧ W.cell? ⟨b, o + 1, none⟩ = some (.int .i64 y.at_) ∧ W.cell? ⟨b, o + 2, none⟩ = some (.int .i64 y.num) ∧ W.cell? ⟨b, o + 3, none⟩ = some (.int .i64 y.ty) ∧ W.cell? ⟨b, o + 4, none⟩ = some (.string y.name) ∧ W.cell? ⟨b, o + 5, none⟩ = some (.slice pl0 y.lab.length cl0) ∧ W.cell? ⟨b, o + 6, none⟩ = some (.slice pa0 y.kids.length ca0))) := fun W hb => by
  have k1 := keeps_of_below hb1
  have k2 := keeps_of_below hb
  refine ⟨?_, ?_, ?_, ?_, ?_, ?_, ?_⟩
  · simpa using k2.2 _ _ _ (k1.2 _ _ _ g03)
  · simpa using k2.2 _ _ _ (k1.2 _ _ _ g04)
  · simpa using k2.2 _ _ _ (k1.2 _ _ _ g05)
  · simpa using k2.2 _ _ _ (k1.2 _ _ _ g06)
  · simpa using k2.2 _ _ _ (k1.2 _ _ _ g07)
  · simpa using k2.2 _ _ _ (k1.2 _ _ _ g08)
  · simpa using k2.2 _ _ _ (k1.2 _ _ _ g09)
 have HTX : Hid (∀ W, Below W1.heap.size W1 W → Calls Tryz.prog 57 #[.agg #[.int .i64 y.kind, .int .i64 y.at_, .int .i64 y.num, .int .i64 y.ty, .string y.name, .slice pl0 y.lab.length cl0, .slice pa0 y.kids.length ca0], .int .i64 6] W fun e w' => e = .returned (.string (textP y 6)) ∧ Below W.heap.size W w') := fun W hb => hk W _ (hb1.trans (hb.mono hb1.size)) (HY0.out W hb)
 have HR : Hid (textP (.mk 3 at_ num ty name l [y]) tight = name ++ textP y 6) := by unfold Hid; rw [textP, if_neg (by decide), if_neg (by decide), if_neg (by decide), if_neg (by decide), if_pos (show [y].length = 1 from rfl)]; rfl
 generalize textP y 6 = J at *
 have hs1 : ¬ 9223372036854775807 < name.size + J.size := by omega
 have HS : Hid (∀ W, Below W1.heap.size W1 W → (W.cell? ⟨w.heap.size, 4, none⟩ = some (.string name) ∧ W.cell? ⟨w.heap.size, 6, none⟩ = some (.slice (some ⟨b, o, none⟩) 1 ca) ∧ W.cell? ⟨b, o, none⟩ = some (.int .i64 y.kind) ∧ W.cell? ⟨b, o + 1, none⟩ = some (.int .i64 y.at_) ∧ W.cell? ⟨b, o + 2, none⟩ = some (.int .i64 y.num) ∧ W.cell? ⟨b, o + 3, none⟩ = some (.int .i64 y.ty) ∧ W.cell? ⟨b, o + 4, none⟩ = some (.string y.name) ∧ W.cell? ⟨b, o + 5, none⟩ = some (.slice pl0 y.lab.length cl0) ∧ W.cell? ⟨b, o + 6, none⟩ = some (.slice pa0 y.kids.length ca0))) := fun W hb => ⟨(HQ.out W hb).cell 4, (HQ.out W hb).cell 6, HK0.out W hb⟩
 have HD : Hid (Below W1.heap.size W1 W1.drew) := below_drew1 W1
 clear hB hb1 ha hk e hmax hp hkids g01 g02 g03 g04 g05 g06 g07 g08 g09 HY0
 go_enter Tryz.func57, Tryz.ntmps57
 go_wp2_with (fail)
 go_region_held3 (fun w' => w'.cell? ⟨w.heap.size, 4, none⟩ = some (.string name) ∧ w'.cell? ⟨w.heap.size, 6, none⟩ = some (.slice (some ⟨b, o, none⟩) 1 ca) ∧ w'.cell? ⟨b, o, none⟩ = some (.int .i64 y.kind) ∧ w'.cell? ⟨b, o + 1, none⟩ = some (.int .i64 y.at_) ∧ w'.cell? ⟨b, o + 2, none⟩ = some (.int .i64 y.num) ∧ w'.cell? ⟨b, o + 3, none⟩ = some (.int .i64 y.ty) ∧ w'.cell? ⟨b, o + 4, none⟩ = some (.string y.name) ∧ w'.cell? ⟨b, o + 5, none⟩ = some (.slice pl0 y.lab.length cl0) ∧ w'.cell? ⟨b, o + 6, none⟩ = some (.slice pa0 y.kids.length ca0))
  (first | exact HS.out _ HZ3.out | exact HS.out _ HD.out)
  (first
    | (go_at_call 57
       refine (HTX.out _ HD.out).mono ?_
       rintro e w3 ⟨rfl, hb3⟩
       have HZ3 : Hid (Below W1.heap.size W1 w3) := HD.out.trans (hb3.mono HD.out.size)))
 all_goals (try go_wp2_with (fail))
 all_goals go_ret
 all_goals exact ⟨by rw [HR.out]; rfl, HBW.out.trans (HZ3.out.mono HBW.out.size)⟩
theorem text_two_in (at_ num ty tight : Int) (name : Txt) (l : Lab) (pl : Option Addr) (cl : Nat) (pa : Option Addr) (ca : Nat) (w : World) (y z : Ex) (ht : Tab w) (hq : levelT name < tight) (hlv : 0 < levelT name) (hn12 : name.size ≤ 2) (ha : Exs w [y, z] (.slice pa 2 ca)) (hsz0 : (textP y (levelT name)).size ≤ 413867158356) (hsz1 : (textP z (levelT name + 1)).size ≤ 413867158356) (hky : TextC w y (levelT name)) (hkz : TextC w z (levelT name + 1)) :
 Calls Tryz.prog 57 #[.agg #[.int .i64 3, .int .i64 at_, .int .i64 num, .int .i64 ty, .string name, .slice pl l.length cl, .slice pa 2 ca], .int .i64 tight] w fun e w' => e = .returned (.string (textP (.mk 3 at_ num ty name l [y, z]) tight)) ∧ Below w.heap.size w w' := by
 have hmf := mf_run
 obtain ⟨W1, eW⟩ : ∃ W1, w.alloc (.cells #[.int .i64 3, .int .i64 at_, .int .i64 num, .int .i64 ty, .string name, .slice pl l.length cl, .slice pa 2 ca] 26) = W1 := ⟨_, rfl⟩
 have hb1 : Below w.heap.size w W1 := by rw [← eW]; exact (Below.refl _ _).alloc (Nat.le_refl _) _
 have hB : Blk W1 w.heap.size [.int .i64 3, .int .i64 at_, .int .i64 num, .int .i64 ty, .string name, .slice pl l.length cl, .slice pa 2 ca] 26 := by rw [← eW]; exact Blk.new _ _ _
 have HQ : Hid (∀ W, Below W1.heap.size W1 W → Blk W w.heap.size [.int .i64 3, .int .i64 at_, .int .i64 num, .int .i64 ty, .string name, .slice pl l.length cl, .slice pa 2 ca] 26) := fun W hb => hB.below hb
 obtain ⟨q0, q1, q2, q3, q4, q5, q6⟩ := hB.cells7
 have HBW := Hd hb1
 obtain ⟨b, o, c, p, e, hmax, hp, hkids⟩ := ha.at
 obtain ⟨rfl, rfl⟩ : pa = p ∧ ca = c := by simpa using e
 obtain rfl := hp (by show 0 < 2; decide)
 have hk0 := hkids 0 (by show 0 < 2; decide)
 have hk1 := hkids 1 (by show 1 < 2; decide)
 simp only [List.getElem_cons_zero, List.getElem_cons_succ] at hk0 hk1
 obtain ⟨pl0, cl0, pa0, ca0, g01, g02, g03, g04, g05, g06, g07, g08, g09⟩ := hk0
 have HY0 : Hid (∀ W, Below W1.heap.size W1 W → ExIs W y (.agg #[.int .i64 y.kind, .int .i64 y.at_, .int .i64 y.num, .int .i64 y.ty, .string y.name, .slice pl0 y.lab.length cl0, .slice pa0 y.kids.length ca0])) := fun W hb => ⟨_, _, rfl, (g01.stays (keeps_of_below hb1)).stays (keeps_of_below hb), (g02.stays (keeps_of_below hb1)).stays (keeps_of_below hb)⟩
 have HK0 : Hid (∀ W, Below W1.heap.size W1 W → (W.cell? ⟨b, o, none⟩ = some (.int .i64 y.kind) ∧ W.cell? ⟨b, o + 1, none⟩ = some (.int .i64 y.at_) ∧ W.cell? ⟨b, o + 2, none⟩ = some (.int .i64 y.num) ∧ W.cell? ⟨b, o + 3, none⟩ = some (.int .i64 y.ty) ∧ W.cell? ⟨b, o + 4, none⟩ = some (.string y.name) ∧ W.cell? ⟨b, o + 5, none⟩ = some (.slice pl0 y.lab.length cl0) ∧ W.cell? ⟨b, o + 6, none⟩ = some (.slice pa0 y.kids.length ca0))) := fun W hb => by
  have k1 := keeps_of_below hb1
  have k2 := keeps_of_below hb
  refine ⟨?_, ?_, ?_, ?_, ?_, ?_, ?_⟩
  · simpa using k2.2 _ _ _ (k1.2 _ _ _ g03)
  · simpa using k2.2 _ _ _ (k1.2 _ _ _ g04)
  · simpa using k2.2 _ _ _ (k1.2 _ _ _ g05)
  · simpa using k2.2 _ _ _ (k1.2 _ _ _ g06)
  · simpa using k2.2 _ _ _ (k1.2 _ _ _ g07)
  · simpa using k2.2 _ _ _ (k1.2 _ _ _ g08)
  · simpa using k2.2 _ _ _ (k1.2 _ _ _ g09)
 obtain ⟨pl1, cl1, pa1, ca1, g11, g12, g13, g14, g15, g16, g17, g18, g19⟩ := hk1
 have HY1 : Hid (∀ W, Below W1.heap.size W1 W → ExIs W z (.agg #[.int .i64 z.kind, .int .i64 z.at_, .int .i64 z.num, .int .i64 z.ty, .string z.name, .slice pl1 z.lab.length cl1, .slice pa1 z.kids.length ca1])) := fun W hb => ⟨_, _, rfl, (g11.stays (keeps_of_below hb1)).stays (keeps_of_below hb), (g12.stays (keeps_of_below hb1)).stays (keeps_of_below hb)⟩
 have HK1 : Hid (∀ W, Below W1.heap.size W1 W → (W.cell? ⟨b, o + 7, none⟩ = some (.int .i64 z.kind) ∧ W.cell? ⟨b, o + 7 + 1, none⟩ = some (.int .i64 z.at_) ∧ W.cell? ⟨b, o + 7 + 2, none⟩ = some (.int .i64 z.num) ∧ W.cell? ⟨b, o + 7 + 3, none⟩ = some (.int .i64 z.ty) ∧ W.cell? ⟨b, o + 7 + 4, none⟩ = some (.string z.name) ∧ W.cell? ⟨b, o + 7 + 5, none⟩ = some (.slice pl1 z.lab.length cl1) ∧ W.cell? ⟨b, o + 7 + 6, none⟩ = some (.slice pa1 z.kids.length ca1))) := fun W hb => by
  have k1 := keeps_of_below hb1
  have k2 := keeps_of_below hb
  refine ⟨?_, ?_, ?_, ?_, ?_, ?_, ?_⟩
  · simpa using k2.2 _ _ _ (k1.2 _ _ _ g13)
  · simpa using k2.2 _ _ _ (k1.2 _ _ _ g14)
  · simpa using k2.2 _ _ _ (k1.2 _ _ _ g15)
  · simpa using k2.2 _ _ _ (k1.2 _ _ _ g16)
  · simpa using k2.2 _ _ _ (k1.2 _ _ _ g17)
  · simpa using k2.2 _ _ _ (k1.2 _ _ _ g18)
  · simpa using k2.2 _ _ _ (k1.2 _ _ _ g19)
 have HTX0 : Hid (∀ W, Below W1.heap.size W1 W → Calls Tryz.prog 57 #[.agg #[.int .i64 y.kind, .int .i64 y.at_, .int .i64 y.num, .int .i64 y.ty, .string y.name, .slice pl0 y.lab.length cl0, .slice pa0 y.kids.length ca0], .int .i64 (levelT name)] W fun e w' => e = .returned (.string (textP y (levelT name))) ∧ Below W.heap.size W w') := fun W hb => hky W _ (hb1.trans (hb.mono hb1.size)) (HY0.out W hb)
 have HTX1 : Hid (∀ W, Below W1.heap.size W1 W → Calls Tryz.prog 57 #[.agg #[.int .i64 z.kind, .int .i64 z.at_, .int .i64 z.num, .int .i64 z.ty, .string z.name, .slice pl1 z.lab.length cl1, .slice pa1 z.kids.length ca1], .int .i64 (levelT name + 1)] W fun e w' => e = .returned (.string (textP z (levelT name + 1))) ∧ Below W.heap.size W w') := fun W hb => hkz W _ (hb1.trans (hb.mono hb1.size)) (HY1.out W hb)
 have HLV := Hd (level_calls name W1 (ht.below hb1))
 have HR : Hid (textP (.mk 3 at_ num ty name l [y, z]) tight = quoteT true (textP y (levelT name) ++ blank1 ++ name ++ blank1 ++ textP z (levelT name + 1))) := by unfold Hid; rw [textP, if_neg (by decide), if_neg (by decide), if_neg (by decide), if_neg (by decide), if_neg (show ¬ [y, z].length = 1 by show ¬ 2 = 1; decide), show decide (levelT name < tight) = true from by simp [hq]]; rfl
 have hlv5 := levelT_le name
 have hwr : IntKind.i64.wrap (levelT name + 1) = levelT name + 1 := by rw [IntKind.wrap_i64]; omega
 generalize textP y (levelT name) = J0 at *
 generalize textP z (levelT name + 1) = J1 at *
 generalize levelT name = lv at *
 have hs1 : ¬ 9223372036854775807 < J0.size + 1 := by omega
 have hs2 : ¬ 9223372036854775807 < J0.size + 1 + name.size := by omega
 have hs3 : ¬ 9223372036854775807 < J0.size + 1 + name.size + 1 := by omega
 have hs4 : ¬ 9223372036854775807 < J0.size + 1 + name.size + 1 + J1.size := by omega
 have HS : Hid (∀ W, Below W1.heap.size W1 W → (W.cell? ⟨w.heap.size, 4, none⟩ = some (.string name) ∧ W.cell? ⟨w.heap.size, 6, none⟩ = some (.slice (some ⟨b, o, none⟩) 2 ca) ∧ W.cell? ⟨b, o, none⟩ = some (.int .i64 y.kind) ∧ W.cell? ⟨b, o + 1, none⟩ = some (.int .i64 y.at_) ∧ W.cell? ⟨b, o + 2, none⟩ = some (.int .i64 y.num) ∧ W.cell? ⟨b, o + 3, none⟩ = some (.int .i64 y.ty) ∧ W.cell? ⟨b, o + 4, none⟩ = some (.string y.name) ∧ W.cell? ⟨b, o + 5, none⟩ = some (.slice pl0 y.lab.length cl0) ∧ W.cell? ⟨b, o + 6, none⟩ = some (.slice pa0 y.kids.length ca0) ∧ W.cell? ⟨b, o + 7, none⟩ = some (.int .i64 z.kind) ∧ W.cell? ⟨b, o + 7 + 1, none⟩ = some (.int .i64 z.at_) ∧ W.cell? ⟨b, o + 7 + 2, none⟩ = some (.int .i64 z.num) ∧ W.cell? ⟨b, o + 7 + 3, none⟩ = some (.int .i64 z.ty) ∧ W.cell? ⟨b, o + 7 + 4, none⟩ = some (.string z.name) ∧ W.cell? ⟨b, o + 7 + 5, none⟩ = some (.slice pl1 z.lab.length cl1) ∧ W.cell? ⟨b, o + 7 + 6, none⟩ = some (.slice pa1 z.kids.length ca1))) := fun W hb => by
  obtain ⟨a0, a1, a2, a3, a4, a5, a6⟩ := HK0.out W hb
  exact ⟨(HQ.out W hb).cell 4, (HQ.out W hb).cell 6, a0, a1, a2, a3, a4, a5, a6, HK1.out W hb⟩
 clear hB hb1 ha hky hkz e hmax hp hkids g01 g02 g03 g04 g05 g06 g07 g08 g09 g11 g12 g13 g14 g15 g16 g17 g18 g19 HY0 HY1 ht hlv
 go_enter Tryz.func57, Tryz.ntmps57
 go_wp2_with (fail)
 refine HLV.out.mono ?_
 rintro e w2 ⟨rfl, hb2⟩
 have HD : Hid (Below W1.heap.size W1 w2.drew) := hb2.drew
 clear hb2 q0 q1 q2 q3 q4 q5 q6
 go_wp2_with (fail)
 go_region_held3 (fun w' => w'.cell? ⟨w.heap.size, 4, none⟩ = some (.string name) ∧ w'.cell? ⟨w.heap.size, 6, none⟩ = some (.slice (some ⟨b, o, none⟩) 2 ca) ∧ w'.cell? ⟨b, o, none⟩ = some (.int .i64 y.kind) ∧ w'.cell? ⟨b, o + 1, none⟩ = some (.int .i64 y.at_) ∧ w'.cell? ⟨b, o + 2, none⟩ = some (.int .i64 y.num) ∧ w'.cell? ⟨b, o + 3, none⟩ = some (.int .i64 y.ty) ∧ w'.cell? ⟨b, o + 4, none⟩ = some (.string y.name) ∧ w'.cell? ⟨b, o + 5, none⟩ = some (.slice pl0 y.lab.length cl0) ∧ w'.cell? ⟨b, o + 6, none⟩ = some (.slice pa0 y.kids.length ca0) ∧ w'.cell? ⟨b, o + 7, none⟩ = some (.int .i64 z.kind) ∧ w'.cell? ⟨b, o + 7 + 1, none⟩ = some (.int .i64 z.at_) ∧ w'.cell? ⟨b, o + 7 + 2, none⟩ = some (.int .i64 z.num) ∧ w'.cell? ⟨b, o + 7 + 3, none⟩ = some (.int .i64 z.ty) ∧ w'.cell? ⟨b, o + 7 + 4, none⟩ = some (.string z.name) ∧ w'.cell? ⟨b, o + 7 + 5, none⟩ = some (.slice pl1 z.lab.length cl1) ∧ w'.cell? ⟨b, o + 7 + 6, none⟩ = some (.slice pa1 z.kids.length ca1))
  (first | exact HS.out _ HZ6.out | exact HS.out _ HZ5.out | exact HS.out _ HZ4.out | exact HS.out _ HZ3.out | exact HS.out _ HD.out)
  (first
    | (go_at_call 57
       refine (HTX1.out _ HZ3.out).mono ?_
       rintro e w4 ⟨rfl, hb4⟩
       have HZ4 : Hid (Below W1.heap.size W1 w4) := HZ3.out.trans (hb4.mono HZ3.out.size)
       have HZZ := HZ4)
    | (go_at_call 57
       refine (HTX0.out _ HZ5.out).mono ?_
       rintro e w6 ⟨rfl, hb6⟩
       have HZ6 : Hid (Below W1.heap.size W1 w6) := HZ5.out.trans (hb6.mono HZ5.out.size)
       have HZZ := HZ6)
    | (go_at_call 57
       refine (HTX0.out _ HD.out).mono ?_
       rintro e w3 ⟨rfl, hb3⟩
       have HZ3 : Hid (Below W1.heap.size W1 w3) := HD.out.trans (hb3.mono HD.out.size))
    | (go_at_call 57
       refine (HTX1.out _ HD.out).mono ?_
       rintro e w5 ⟨rfl, hb5⟩
       have HZ5 : Hid (Below W1.heap.size W1 w5) := HD.out.trans (hb5.mono HD.out.size)))
 all_goals (try go_wp2_with (fail))
 all_goals go_ret
 all_goals exact ⟨by rw [HR.out]; rfl, HBW.out.trans (HZZ.out.mono HBW.out.size)⟩
theorem text_two (at_ num ty tight : Int) (name : Txt) (l : Lab) (pl : Option Addr) (cl : Nat) (pa : Option Addr) (ca : Nat) (w : World) (y z : Ex) (ht : Tab w) (hq : ¬ levelT name < tight) (hlv : 0 < levelT name) (hn12 : name.size ≤ 2) (ha : Exs w [y, z] (.slice pa 2 ca)) (hsz0 : (textP y (levelT name)).size ≤ 413867158356) (hsz1 : (textP z (levelT name + 1)).size ≤ 413867158356) (hky : TextC w y (levelT name)) (hkz : TextC w z (levelT name + 1)) :
 Calls Tryz.prog 57 #[.agg #[.int .i64 3, .int .i64 at_, .int .i64 num, .int .i64 ty, .string name, .slice pl l.length cl, .slice pa 2 ca], .int .i64 tight] w fun e w' => e = .returned (.string (textP (.mk 3 at_ num ty name l [y, z]) tight)) ∧ Below w.heap.size w w' := by
 have hmf := mf_run
 obtain ⟨W1, eW⟩ : ∃ W1, w.alloc (.cells #[.int .i64 3, .int .i64 at_, .int .i64 num, .int .i64 ty, .string name, .slice pl l.length cl, .slice pa 2 ca] 26) = W1 := ⟨_, rfl⟩
 have hb1 : Below w.heap.size w W1 := by rw [← eW]; exact (Below.refl _ _).alloc (Nat.le_refl _) _
 have hB : Blk W1 w.heap.size [.int .i64 3, .int .i64 at_, .int .i64 num, .int .i64 ty, .string name, .slice pl l.length cl, .slice pa 2 ca] 26 := by rw [← eW]; exact Blk.new _ _ _
 have HQ : Hid (∀ W, Below W1.heap.size W1 W → Blk W w.heap.size [.int .i64 3, .int .i64 at_, .int .i64 num, .int .i64 ty, .string name, .slice pl l.length cl, .slice pa 2 ca] 26) := fun W hb => hB.below hb
 obtain ⟨q0, q1, q2, q3, q4, q5, q6⟩ := hB.cells7
 have HBW := Hd hb1
 obtain ⟨b, o, c, p, e, hmax, hp, hkids⟩ := ha.at
 obtain ⟨rfl, rfl⟩ : pa = p ∧ ca = c := by simpa using e
 obtain rfl := hp (by show 0 < 2; decide)
 have hk0 := hkids 0 (by show 0 < 2; decide)
 have hk1 := hkids 1 (by show 1 < 2; decide)
 simp only [List.getElem_cons_zero, List.getElem_cons_succ] at hk0 hk1
 obtain ⟨pl0, cl0, pa0, ca0, g01, g02, g03, g04, g05, g06, g07, g08, g09⟩ := hk0
 have HY0 : Hid (∀ W, Below W1.heap.size W1 W → ExIs W y (.agg #[.int .i64 y.kind, .int .i64 y.at_, .int .i64 y.num, .int .i64 y.ty, .string y.name, .slice pl0 y.lab.length cl0, .slice pa0 y.kids.length ca0])) := fun W hb => ⟨_, _, rfl, (g01.stays (keeps_of_below hb1)).stays (keeps_of_below hb), (g02.stays (keeps_of_below hb1)).stays (keeps_of_below hb)⟩
 have HK0 : Hid (∀ W, Below W1.heap.size W1 W → (W.cell? ⟨b, o, none⟩ = some (.int .i64 y.kind) ∧ W.cell? ⟨b, o + 1, none⟩ = some (.int .i64 y.at_) ∧ W.cell? ⟨b, o + 2, none⟩ = some (.int .i64 y.num) ∧ W.cell? ⟨b, o + 3, none⟩ = some (.int .i64 y.ty) ∧ W.cell? ⟨b, o + 4, none⟩ = some (.string y.name) ∧ W.cell? ⟨b, o + 5, none⟩ = some (.slice pl0 y.lab.length cl0) ∧ W.cell? ⟨b, o + 6, none⟩ = some (.slice pa0 y.kids.length ca0))) := fun W hb => by
  have k1 := keeps_of_below hb1
  have k2 := keeps_of_below hb
  refine ⟨?_, ?_, ?_, ?_, ?_, ?_, ?_⟩
  · simpa using k2.2 _ _ _ (k1.2 _ _ _ g03)
  · simpa using k2.2 _ _ _ (k1.2 _ _ _ g04)
  · simpa using k2.2 _ _ _ (k1.2 _ _ _ g05)
  · simpa using k2.2 _ _ _ (k1.2 _ _ _ g06)
  · simpa using k2.2 _ _ _ (k1.2 _ _ _ g07)
  · simpa using k2.2 _ _ _ (k1.2 _ _ _ g08)
  · simpa using k2.2 _ _ _ (k1.2 _ _ _ g09)
 obtain ⟨pl1, cl1, pa1, ca1, g11, g12, g13, g14, g15, g16, g17, g18, g19⟩ := hk1
 have HY1 : Hid (∀ W, Below W1.heap.size W1 W → ExIs W z (.agg #[.int .i64 z.kind, .int .i64 z.at_, .int .i64 z.num, .int .i64 z.ty, .string z.name, .slice pl1 z.lab.length cl1, .slice pa1 z.kids.length ca1])) := fun W hb => ⟨_, _, rfl, (g11.stays (keeps_of_below hb1)).stays (keeps_of_below hb), (g12.stays (keeps_of_below hb1)).stays (keeps_of_below hb)⟩
 have HK1 : Hid (∀ W, Below W1.heap.size W1 W → (W.cell? ⟨b, o + 7, none⟩ = some (.int .i64 z.kind) ∧ W.cell? ⟨b, o + 7 + 1, none⟩ = some (.int .i64 z.at_) ∧ W.cell? ⟨b, o + 7 + 2, none⟩ = some (.int .i64 z.num) ∧ W.cell? ⟨b, o + 7 + 3, none⟩ = some (.int .i64 z.ty) ∧ W.cell? ⟨b, o + 7 + 4, none⟩ = some (.string z.name) ∧ W.cell? ⟨b, o + 7 + 5, none⟩ = some (.slice pl1 z.lab.length cl1) ∧ W.cell? ⟨b, o + 7 + 6, none⟩ = some (.slice pa1 z.kids.length ca1))) := fun W hb => by
  have k1 := keeps_of_below hb1
  have k2 := keeps_of_below hb
  refine ⟨?_, ?_, ?_, ?_, ?_, ?_, ?_⟩
  · simpa using k2.2 _ _ _ (k1.2 _ _ _ g13)
  · simpa using k2.2 _ _ _ (k1.2 _ _ _ g14)
  · simpa using k2.2 _ _ _ (k1.2 _ _ _ g15)
  · simpa using k2.2 _ _ _ (k1.2 _ _ _ g16)
  · simpa using k2.2 _ _ _ (k1.2 _ _ _ g17)
  · simpa using k2.2 _ _ _ (k1.2 _ _ _ g18)
  · simpa using k2.2 _ _ _ (k1.2 _ _ _ g19)
 have HTX0 : Hid (∀ W, Below W1.heap.size W1 W → Calls Tryz.prog 57 #[.agg #[.int .i64 y.kind, .int .i64 y.at_, .int .i64 y.num, .int .i64 y.ty, .string y.name, .slice pl0 y.lab.length cl0, .slice pa0 y.kids.length ca0], .int .i64 (levelT name)] W fun e w' => e = .returned (.string (textP y (levelT name))) ∧ Below W.heap.size W w') := fun W hb => hky W _ (hb1.trans (hb.mono hb1.size)) (HY0.out W hb)
 have HTX1 : Hid (∀ W, Below W1.heap.size W1 W → Calls Tryz.prog 57 #[.agg #[.int .i64 z.kind, .int .i64 z.at_, .int .i64 z.num, .int .i64 z.ty, .string z.name, .slice pl1 z.lab.length cl1, .slice pa1 z.kids.length ca1], .int .i64 (levelT name + 1)] W fun e w' => e = .returned (.string (textP z (levelT name + 1))) ∧ Below W.heap.size W w') := fun W hb => hkz W _ (hb1.trans (hb.mono hb1.size)) (HY1.out W hb)
 have HLV := Hd (level_calls name W1 (ht.below hb1))
 have HR : Hid (textP (.mk 3 at_ num ty name l [y, z]) tight = quoteT false (textP y (levelT name) ++ blank1 ++ name ++ blank1 ++ textP z (levelT name + 1))) := by unfold Hid; rw [textP, if_neg (by decide), if_neg (by decide), if_neg (by decide), if_neg (by decide), if_neg (show ¬ [y, z].length = 1 by show ¬ 2 = 1; decide), show decide (levelT name < tight) = false from by simp [hq]]; rfl
 have hlv5 := levelT_le name
 have hwr : IntKind.i64.wrap (levelT name + 1) = levelT name + 1 := by rw [IntKind.wrap_i64]; omega
 generalize textP y (levelT name) = J0 at *
 generalize textP z (levelT name + 1) = J1 at *
 generalize levelT name = lv at *
 have hs1 : ¬ 9223372036854775807 < J0.size + 1 := by omega
 have hs2 : ¬ 9223372036854775807 < J0.size + 1 + name.size := by omega
 have hs3 : ¬ 9223372036854775807 < J0.size + 1 + name.size + 1 := by omega
 have hs4 : ¬ 9223372036854775807 < J0.size + 1 + name.size + 1 + J1.size := by omega
 have HS : Hid (∀ W, Below W1.heap.size W1 W → (W.cell? ⟨w.heap.size, 4, none⟩ = some (.string name) ∧ W.cell? ⟨w.heap.size, 6, none⟩ = some (.slice (some ⟨b, o, none⟩) 2 ca) ∧ W.cell? ⟨b, o, none⟩ = some (.int .i64 y.kind) ∧ W.cell? ⟨b, o + 1, none⟩ = some (.int .i64 y.at_) ∧ W.cell? ⟨b, o + 2, none⟩ = some (.int .i64 y.num) ∧ W.cell? ⟨b, o + 3, none⟩ = some (.int .i64 y.ty) ∧ W.cell? ⟨b, o + 4, none⟩ = some (.string y.name) ∧ W.cell? ⟨b, o + 5, none⟩ = some (.slice pl0 y.lab.length cl0) ∧ W.cell? ⟨b, o + 6, none⟩ = some (.slice pa0 y.kids.length ca0) ∧ W.cell? ⟨b, o + 7, none⟩ = some (.int .i64 z.kind) ∧ W.cell? ⟨b, o + 7 + 1, none⟩ = some (.int .i64 z.at_) ∧ W.cell? ⟨b, o + 7 + 2, none⟩ = some (.int .i64 z.num) ∧ W.cell? ⟨b, o + 7 + 3, none⟩ = some (.int .i64 z.ty) ∧ W.cell? ⟨b, o + 7 + 4, none⟩ = some (.string z.name) ∧ W.cell? ⟨b, o + 7 + 5, none⟩ = some (.slice pl1 z.lab.length cl1) ∧ W.cell? ⟨b, o + 7 + 6, none⟩ = some (.slice pa1 z.kids.length ca1))) := fun W hb => by
  obtain ⟨a0, a1, a2, a3, a4, a5, a6⟩ := HK0.out W hb
  exact ⟨(HQ.out W hb).cell 4, (HQ.out W hb).cell 6, a0, a1, a2, a3, a4, a5, a6, HK1.out W hb⟩
 clear hB hb1 ha hky hkz e hmax hp hkids g01 g02 g03 g04 g05 g06 g07 g08 g09 g11 g12 g13 g14 g15 g16 g17 g18 g19 HY0 HY1 ht hlv
 go_enter Tryz.func57, Tryz.ntmps57
 go_wp2_with (fail)
 refine HLV.out.mono ?_
 rintro e w2 ⟨rfl, hb2⟩
 have HD : Hid (Below W1.heap.size W1 w2.drew) := hb2.drew
 clear hb2 q0 q1 q2 q3 q4 q5 q6
 go_wp2_with (fail)
 go_region_held3 (fun w' => w'.cell? ⟨w.heap.size, 4, none⟩ = some (.string name) ∧ w'.cell? ⟨w.heap.size, 6, none⟩ = some (.slice (some ⟨b, o, none⟩) 2 ca) ∧ w'.cell? ⟨b, o, none⟩ = some (.int .i64 y.kind) ∧ w'.cell? ⟨b, o + 1, none⟩ = some (.int .i64 y.at_) ∧ w'.cell? ⟨b, o + 2, none⟩ = some (.int .i64 y.num) ∧ w'.cell? ⟨b, o + 3, none⟩ = some (.int .i64 y.ty) ∧ w'.cell? ⟨b, o + 4, none⟩ = some (.string y.name) ∧ w'.cell? ⟨b, o + 5, none⟩ = some (.slice pl0 y.lab.length cl0) ∧ w'.cell? ⟨b, o + 6, none⟩ = some (.slice pa0 y.kids.length ca0) ∧ w'.cell? ⟨b, o + 7, none⟩ = some (.int .i64 z.kind) ∧ w'.cell? ⟨b, o + 7 + 1, none⟩ = some (.int .i64 z.at_) ∧ w'.cell? ⟨b, o + 7 + 2, none⟩ = some (.int .i64 z.num) ∧ w'.cell? ⟨b, o + 7 + 3, none⟩ = some (.int .i64 z.ty) ∧ w'.cell? ⟨b, o + 7 + 4, none⟩ = some (.string z.name) ∧ w'.cell? ⟨b, o + 7 + 5, none⟩ = some (.slice pl1 z.lab.length cl1) ∧ w'.cell? ⟨b, o + 7 + 6, none⟩ = some (.slice pa1 z.kids.length ca1))
  (first | exact HS.out _ HZ6.out | exact HS.out _ HZ5.out | exact HS.out _ HZ4.out | exact HS.out _ HZ3.out | exact HS.out _ HD.out)
  (first
    | (go_at_call 57
       refine (HTX1.out _ HZ3.out).mono ?_
       rintro e w4 ⟨rfl, hb4⟩
       have HZ4 : Hid (Below W1.heap.size W1 w4) := HZ3.out.trans (hb4.mono HZ3.out.size)
       have HZZ := HZ4)
    | (go_at_call 57
       refine (HTX0.out _ HZ5.out).mono ?_
       rintro e w6 ⟨rfl, hb6⟩
       have HZ6 : Hid (Below W1.heap.size W1 w6) := HZ5.out.trans (hb6.mono HZ5.out.size)
       have HZZ := HZ6)
    | (go_at_call 57
       refine (HTX0.out _ HD.out).mono ?_
       rintro e w3 ⟨rfl, hb3⟩
       have HZ3 : Hid (Below W1.heap.size W1 w3) := HD.out.trans (hb3.mono HD.out.size))
    | (go_at_call 57
       refine (HTX1.out _ HD.out).mono ?_
       rintro e w5 ⟨rfl, hb5⟩
       have HZ5 : Hid (Below W1.heap.size W1 w5) := HD.out.trans (hb5.mono HD.out.size)))
 all_goals (try go_wp2_with (fail))
 all_goals go_ret
 all_goals exact ⟨by rw [HR.out]; rfl, HBW.out.trans (HZZ.out.mono HBW.out.size)⟩
end
section
open Go.RowKit Go.ChangeShapes Go.WideShapes Go.ChangeAt
theorem laid_drop {P : Program} {W : World} : ∀ (n : Nat) {l : List (String × DataW Unit)}, laidMet P l W → laidMet P (l.drop n) W := by
 intro n
 induction n with
 | zero => intro l h; exact h
 | succ n ih =>
   intro l h
   cases l with
   | nil => exact h
   | cons x l => exact ih (laidMet.tail h)
theorem tab_at {l : List (String × DataW Unit)} {W : World} (n : Nat) {rest : List (String × DataW Unit)} (hh : (l.all fun x => x.2.handleName?.isNone) = true) (h : laidMetH Tryz.prog l W.memory) (e : l.drop n = ("strings.asciiSpace", Lib.tabData .u8 Lib.asciiSpaceTab) :: rest) : Tab W := by
 rw [MakeChecks.laidMetH_plain _ _ _ hh] at h
 have h2 := laid_drop n h
 rw [e] at h2
 exact Lib.tabIs_of_head (g := 1) (t := 269) (e := 5) (n := 256) (W := W.memory) (by kernel_rfl) (by kernel_rfl) Tryz.underlying269 Tryz.underlying5 (by kernel_rfl) (by kernel_rfl) h2
theorem pow_at {l : List (String × DataW Unit)} {W : World} (n : Nat) {rest : List (String × DataW Unit)} (hh : (l.all fun x => x.2.handleName?.isNone) = true) (h : laidMetH Tryz.prog l W.memory) (e : l.drop n = ("internal/strconv.uint64pow10", Lib.tabData .u64 Lib.pow10Tab) :: rest) : Pow W := by
 rw [MakeChecks.laidMetH_plain _ _ _ hh] at h
 have h2 := laid_drop n h
 rw [e] at h2
 exact Lib.tabIs_of_head (g := 3) (t := 305) (e := 281) (n := 20) (W := W.memory) (by kernel_rfl) (by kernel_rfl) Tryz.underlying305 Tryz.underlying281 (by kernel_rfl) (by kernel_rfl) h2
end
section
open Go.RowKit
def eqF {α β : Type} (f : α → β → Bool) : List α → List β → Bool
 | [], [] => true
 | x :: l, y :: m => f x y && eqF f l m
 | _, _ => false
theorem eqF_len {α β : Type} {f : α → β → Bool} : ∀ {l : List α} {m : List β}, l.length ≠ m.length → eqF f l m = false
 | [], [], h => absurd rfl h
 | x :: l, y :: m, h => by
   have := eqF_len (f := f) (l := l) (m := m) (fun e => h (by simp [e]))
   simp [eqF, this]
 | [], y :: m, _ => rfl
 | x :: l, [], _ => rfl
theorem eqF_at {α β : Type} {f : α → β → Bool} : ∀ {l : List α} {m : List β} (k : Nat) (h1 : k < l.length) (h2 : k < m.length), f l[k] m[k] = false → eqF f l m = false
 | x :: l, y :: m, 0, _, _, h => by
   have h' : f x y = false := h
   simp [eqF, h']
 | x :: l, y :: m, k + 1, h1, h2, h => by
   have := eqF_at (l := l) (m := m) k (by simpa using h1) (by simpa using h2) (by simpa using h)
   simp [eqF, this]
theorem eqF_all {α β : Type} {f : α → β → Bool} : ∀ {l : List α} {m : List β}, l.length = m.length → (∀ k (h1 : k < l.length) (h2 : k < m.length), f l[k] m[k] = true) → eqF f l m = true
 | [], [], _, _ => rfl
 | x :: l, y :: m, h, ha => by
   have h0 : f x y = true := ha 0 (by simp) (by simp)
   have := eqF_all (f := f) (l := l) (m := m) (by simpa using h) (fun k h1 h2 => ha (k + 1) (by simpa using h1) (by simpa using h2))
   simp [eqF, h0, this]
def samePol (p q : Pol) : Bool := (p.1 == q.1) && (p.2 == q.2)
def sameLab (l m : Lab) : Bool := eqF samePol l m
mutual
def sameE : Ex → Ex → Bool
 | .mk k _ n t s l a, y => (k == y.kind) && (n == y.num) && (t == y.ty) && (s == y.name) && sameLab l y.lab && sameL a y.kids
def sameL : List Ex → List Ex → Bool
 | [], m => m.isEmpty
 | x :: r, m => match m with
   | [] => false
   | y :: m' => sameE x y && sameL r m'
end
theorem sameL_eqF : ∀ (l m : List Ex), sameL l m = eqF sameE l m
 | [], [] => by simp [sameL, eqF]
 | [], y :: m => by simp [sameL, eqF]
 | x :: l, [] => by simp [sameL, eqF]
 | x :: l, y :: m => by simp [sameL, eqF, sameL_eqF l m]
end
section
open Go.RowKit
theorem text_ne {x y : Txt} (h : ¬ x = y) : (x.toList == y.toList) = false := by
 cases e : (x.toList == y.toList) with
 | false => rfl
 | true => exact absurd (bytes_eq.1 e) h
theorem equalS_calls (l m : List Txt) (v u : Value) (w : World) (hv : Strs w l v) (hu : Strs w m u) :
 Calls Tryz.prog 66 #[v, u] w fun e w' => e = .returned (.bool (l == m)) ∧ ∃ n, w' = w.drewN n := by
 obtain ⟨b, o, c, p, rfl, hlc, hc, hp, hcells⟩ := One.cells hv
 obtain ⟨b2, o2, c2, p2, rfl, hlc2, hc2, hp2, hcells2⟩ := One.cells hu
 clear hv hu
 by_cases hn : l.length = m.length
 · have HN := Hd hn
   have hn1 : ((l.length : Int) != (m.length : Int)) = false := by simp [hn]
   have hn2 : ((l.length : Int) == (m.length : Int)) = true := by simp [hn]
   clear hn
   go_enter Tryz.func66, Tryz.ntmps66
   go_wp2
   go_loopw [5, 13] (fun _ i wr => ∃ k : Nat, k ≤ l.length ∧ i = .int .i64 k ∧ (∃ n, wr = w.drewN n) ∧ Hid (∀ j (h1 : j < l.length) (h2 : j < m.length), j < k → (l[j] == m[j]) = true)) (fun _ i _ => l.length - (intOf i).toNat)
   case atStart => exact ⟨0, Nat.zero_le _, rfl, ⟨0, rfl⟩, fun j _ _ hj => absurd hj (Nat.not_lt_zero _)⟩
   case round =>
    obtain ⟨k, hk, rfl, ⟨n, rfl⟩, HE⟩ := hrel
    by_cases hlt : k < l.length
    · have hlt2 : k < m.length := by have := HN.out; omega
      have hcell := hcells k hlt
      have hcell2 := hcells2 k hlt2
      obtain rfl := hp (by omega)
      obtain rfl := hp2 (by omega)
      clear hp hp2 hcells hcells2
      cases he : l[k] == m[k] with
      | true =>
        have HX : Hid ((l[k] == m[k]) = true) := he
        have he' : (l[k].toList == m[k].toList) = true := bytes_eq.2 (by simpa using he)
        clear he
        go_wp2
        go_quiet (fail)
        go_wp2
        go_roundw
        case rel =>
         refine ⟨k + 1, by omega, by go_num, ⟨n + nq, rfl⟩, fun j h1 h2 hj => ?_⟩
         by_cases e : j = k
         · subst e; exact HX.out
         · exact HE.out j h1 h2 (by omega)
        case measure => simp [intOf]; omega
      | false =>
        have HX : Hid ((l == m) = false) := eq_at hlt hlt2 he
        have he' : (l[k].toList == m[k].toList) = false := text_ne (by simpa using he)
        clear he
        go_wp2
        go_quiet (fail)
        go_wp2
        go_ret
        exact ⟨ret_bool HX.out.symm, ⟨n + nq, by first | rw [World.drewN_drewN] | rfl⟩⟩
    · have HX : Hid ((l == m) = true) := eq_all HN.out fun j h1 h2 => HE.out j h1 h2 (by omega)
      go_wp2
      go_ret
      exact ⟨ret_bool HX.out.symm, ⟨n, rfl⟩⟩
 · have HX : Hid ((l == m) = false) := eq_len hn
   have hn1 : ((l.length : Int) != (m.length : Int)) = true := by simp; omega
   have hn2 : ((l.length : Int) == (m.length : Int)) = false := by simp; omega
   clear hn
   go_enter Tryz.func66, Tryz.ntmps66
   go_wp2
   go_ret
   exact ⟨ret_bool HX.out.symm, ⟨0, rfl⟩⟩
end
end Go.Proofs.YtminbehofnnhmaaGreatDoor
