/-
  The reader's arguments: expressions in brackets. The reader's expressions: signs between, the same for each tightness. (parvgen.py prints the walk of the region that draws its order.)
-/
import Derived.Test.YtfigfefpejpboaaGreatDoorPP01
import Derived.Deep.RegionHeld3
namespace Go.Proofs.YtfigfefpejpboaaGreatDoor
open Go.RowKit Go.Maps
set_option linter.unusedVariables false
set_option linter.unusedSimpArgs false

/-- Seven cells of a block are set. -/
def sev (w : World) (n : Nat) (a b c d e f g : Value) : World := ((((((w.setCell ⟨n, 0, none⟩ a).setCell ⟨n, 1, none⟩ b).setCell ⟨n, 2, none⟩ c).setCell ⟨n, 3, none⟩ d).setCell ⟨n, 4, none⟩ e).setCell ⟨n, 5, none⟩ f).setCell ⟨n, 6, none⟩ g
section
variable {w w0 : World} {n B m : Nat} {t : TypeId} {a b c d e f g a' b' c' d' e' f' g' : Value}
theorem Blk.sev (h : Blk w n [a', b', c', d', e', f', g'] t) : Blk (sev w n a b c d e f g) n [a, b, c, d, e, f, g] t := by
  have := ((((((h.set 0 a).set 1 b).set 2 c).set 3 d).set 4 e).set 5 f).set 6 g
  simpa [Proofs.YtfigfefpejpboaaGreatDoor.sev] using this
theorem Blk.cells7 (h : Blk w n [a', b', c', d', e', f', g'] t) : w.cell? ⟨n, 0, none⟩ = some a' ∧ w.cell? ⟨n, 1, none⟩ = some b' ∧ w.cell? ⟨n, 2, none⟩ = some c' ∧ w.cell? ⟨n, 3, none⟩ = some d' ∧ w.cell? ⟨n, 4, none⟩ = some e' ∧ w.cell? ⟨n, 5, none⟩ = some f' ∧ w.cell? ⟨n, 6, none⟩ = some g' :=
  ⟨h.cell 0, h.cell 1, h.cell 2, h.cell 3, h.cell 4, h.cell 5, h.cell 6⟩
theorem Blk.fz7 (h : Blk w n [a', b', c', d', e', f', g'] t) : w.frozen? ⟨n, 0, none⟩ = false ∧ w.frozen? ⟨n, 1, none⟩ = false ∧ w.frozen? ⟨n, 2, none⟩ = false ∧ w.frozen? ⟨n, 3, none⟩ = false ∧ w.frozen? ⟨n, 4, none⟩ = false ∧ w.frozen? ⟨n, 5, none⟩ = false ∧ w.frozen? ⟨n, 6, none⟩ = false :=
  ⟨h.fz 0, h.fz 1, h.fz 2, h.fz 3, h.fz 4, h.fz 5, h.fz 6⟩
theorem since_sev (hn : n < m) : Keeps (since m w) (since m (sev w n a b c d e f g)) :=
  ((((((since_set _ _ _ hn).trans (since_set _ _ _ hn)).trans (since_set _ _ _ hn)).trans (since_set _ _ _ hn)).trans (since_set _ _ _ hn)).trans (since_set _ _ _ hn)).trans (since_set _ _ _ hn)
theorem aside_sev (ha : Aside1 B w0 w) (hn : w0.heap.size ≤ n) : Aside1 B w0 (sev w n a b c d e f g) :=
  aside_new (aside_new (aside_new (aside_new (aside_new (aside_new (aside_new ha hn _ _) hn _ _) hn _ _) hn _ _) hn _ _) hn _ _) hn _ _
theorem sev_block (hn : n ≠ B) : (sev w n a b c d e f g).heap[B]? = w.heap[B]? := by
  have h : ∀ (W : World) (o : Nat) (v : Value), (W.setCell ⟨n, o, none⟩ v).heap[B]? = W.heap[B]? := fun W o v => Below.heap_setCell _ _ _ _ (fun e => hn (by simpa using e.symm))
  unfold sev
  rw [h, h, h, h, h, h, h]
theorem sev_size : (sev w n a b c d e f g).heap.size = w.heap.size := by simp [sev, World.setCell]
end
/-- An expression's zero: seven cells. -/
def zeroC : List Value := [.int .i64 0, .int .i64 0, .int .i64 0, .int .i64 0, .string ⟨#[]⟩, .slice none 0 0, .slice none 0 0]
/-- Arguments: things in brackets. -/
def argsQ (T : List Tok) (E : Int) (one : Nat → Rs Ex) (k : Nat) : Rs (List Ex) := (mustP T E tLeft k).bind fun _ k1 =>
  if tkIs T k1 tRight then .ok [] (k1 + 1) else (listP T E one 4 tComma k1).bind fun l k2 => (mustP T E tRight k2).bind fun _ k3 => .ok l k3
theorem argsQ_eq (T : List Tok) (E : Int) (prim : Nat → Rs Ex) : argsP T E prim = argsQ T E (exprL T prim 5) := rfl
/-- What reads an expression. -/
def ReadsEx (B : Nat) (T : List Tok) (E : Int) (tv : Value) (dp ns : Nat) (fn : FuncId) (args : Array Value) (p : Nat → Rs Ex) : Prop :=
  ∀ (W : World) (k : Nat), Rdr W B T E tv k dp ns → Calls Tryz.prog fn args W (Does W B T E tv dp ns ExIs (p k))
section
variable {w : World} {B : Nat} {T : List Tok} {E : Int} {tv : Value} {k dp ns : Nat}
set_option maxHeartbeats 2000000 in
set_option maxRecDepth 100000 in
theorem args1_calls {p : Nat → Rs Ex} (hx : ReadsEx B T E tv dp ns 36 #[.pointer (some ⟨B, 0, none⟩), .int .i64 1] p) (h : Rdr w B T E tv k dp ns) {gb : Nat} (hg : w.cell? ⟨gb, 0, none⟩ = some (.pointer (some ⟨B, 0, none⟩))) (hne : gb ≠ B) :
    Calls Tryz.prog 146 #[.pointer (some ⟨gb, 0, none⟩)] w (Does w B T E tv dp ns ExIs (p k)) := by
  obtain ⟨W1, eW⟩ : ∃ W1, w.alloc (.cells #[.int .i64 0, .int .i64 0, .int .i64 0, .int .i64 0, .string ⟨#[]⟩, .slice none 0 0, .slice none 0 0] 26) = W1 := ⟨_, rfl⟩
  have hB1 : Blk W1 w.heap.size zeroC 26 := by rw [← eW]; exact Blk.new _ _ _
  have hb1 : Below w.heap.size w W1 := by rw [← eW]; exact (Below.refl _ _).alloc (Nat.le_refl _) _
  have HN : Hid (w.heap.size < W1.heap.size) := hB1.lt
  have HNE : Hid (w.heap.size ≠ B) := by have := h.lt; unfold Hid; omega
  have HB1 := Lib.hid hB1
  have HA1 := Lib.hid (aside_below (B := B) hb1)
  have g1 : W1.cell? ⟨gb, 0, none⟩ = some (.pointer (some ⟨B, 0, none⟩)) := HA1.out.cell hne hg
  have h1 := hx W1 k (h.below hb1)
  have H0 := Lib.hid h
  clear hB1 hb1 h hx hg hne
  cases hr : p k with
  | bad c a =>
    rw [hr] at h1
    have H1 := Lib.hid h1
    clear h1 hr
    go_enter Tryz.func146, Tryz.ntmps146
    go_wp2_with (fail)
    refine H1.out.mono ?_
    rintro e w2 ⟨ha, rfl, hlf⟩
    have HA := Lib.hid (HA1.out.trans ha)
    have HLF := Lib.hid hlf
    clear hlf ha
    go_wp2_with (fail)
    exact ⟨rfl, HA.out, rfl, HLF.out⟩
  | ok x k1 =>
    rw [hr] at h1
    have H1 := Lib.hid h1
    clear h1 hr
    go_enter Tryz.func146, Tryz.ntmps146
    go_wp2_with (fail)
    refine H1.out.mono ?_
    rintro e w2 ⟨ha, v2, rfl, hr2, hx2⟩
    have HA2 := Lib.hid (HA1.out.trans ha)
    have hB2 := HB1.out.aside ha HNE.out
    have HB2 := Lib.hid hB2
    have HR2 := Lib.hid hr2
    have HX2 := Lib.hid hx2
    obtain ⟨vl, va, rfl, hvl, hva⟩ := hx2
    obtain ⟨pl, cl, rfl, _⟩ := hvl
    obtain ⟨pa, ca, rfl, _⟩ := hva
    obtain ⟨c0, c1, c2, c3, c4, c5, c6⟩ := Blk.cells7 hB2
    obtain ⟨f0, f1, f2, f3, f4, f5, f6⟩ := Blk.fz7 hB2
    clear ha hB2 hr2 g1 H1 eW
    go_wp2_with (fail)
    refine bodyPost_ret (v := .agg #[.int .i64 x.kind, .int .i64 x.at_, .int .i64 x.num, .int .i64 x.ty, .string x.name, .slice pl x.lab.length cl, .slice pa x.kids.length ca]) ?_ rfl ?_
    · obtain ⟨q0, q1, q2, q3, q4, q5, q6⟩ := (Blk.sev (a := .int .i64 x.kind) (b := .int .i64 x.at_) (c := .int .i64 x.num) (d := .int .i64 x.ty) (e := .string x.name) (f := .slice pl x.lab.length cl) (g := .slice pa x.kids.length ca) HB2.out).cells7
      unfold sev at q0 q1 q2 q3 q4 q5 q6
      simp [results, Tryz.results146, go_sem, q0, q1, q2, q3, q4, q5, q6]
    · have hA9 := aside_sev (a := .int .i64 x.kind) (b := .int .i64 x.at_) (c := .int .i64 x.num) (d := .int .i64 x.ty) (e := .string x.name) (f := .slice pl x.lab.length cl) (g := .slice pa x.kids.length ca) HA2.out (Nat.le_refl _)
      exact ⟨hA9, _, rfl, H0.out.via hA9 (sev_block HNE.out) HR2.out, HX2.out.stays ((since_sev HN.out).trans (since_mono _ (Nat.le_of_lt HN.out)))⟩
set_option maxHeartbeats 2000000 in
set_option maxRecDepth 100000 in
theorem args_calls (h : Rdr w B T E tv k dp ns) {p : Nat → Rs Ex} (hx : ReadsEx B T E tv dp ns 36 #[.pointer (some ⟨B, 0, none⟩), .int .i64 1] p) : Calls Tryz.prog 119 #[.pointer (some ⟨B, 0, none⟩)] w (Does w B T E tv dp ns (fun W l v => SliceOf exE 7 W l v) (argsQ T E p k)) := by
  have hmf : ∀ (fn : Fn) (first cap : Array Value) (w : World), (Instr.makeFunc fn first cap).run Tryz.prog w = .ok (.func fn first cap) w := fun _ _ _ _ => rfl
  have HPX := Lib.hid hx
  clear hx
  have HP : Hid (argsQ T E p k = (mustP T E tLeft k).bind fun _ k1 =>
    if tkIs T k1 tRight then .ok [] (k1 + 1) else (listP T E p 4 tComma k1).bind fun l k2 => (mustP T E tRight k2).bind fun _ k3 => .ok l k3) := rfl
  obtain ⟨W1, eW⟩ : ∃ W1, w.alloc (.cells #[.pointer (some ⟨B, 0, none⟩)] 55) = W1 := ⟨_, rfl⟩
  have hB1 : Blk W1 w.heap.size [.pointer (some ⟨B, 0, none⟩)] 55 := by rw [← eW]; exact Blk.new _ _ _
  have hb1 : Below w.heap.size w W1 := by rw [← eW]; exact (Below.refl _ _).alloc (Nat.le_refl _) _
  have HN : Hid (w.heap.size < W1.heap.size) := hB1.lt
  have HNE : Hid (w.heap.size ≠ B) := by have := h.lt; unfold Hid; omega
  have HG : Hid (∀ W, Aside1 B W1 W → W.cell? ⟨w.heap.size, 0, none⟩ = some (.pointer (some ⟨B, 0, none⟩))) := fun W ha => by
    have := (hB1.aside ha HNE.out).cell 0
    simpa using this
  have HBL : Hid (B < W1.heap.size) := by have := h.lt; have := HN.out; unfold Hid; omega
  have HA1 := Lib.hid (aside_below (B := B) hb1)
  have HR1 := Lib.hid (h.below hb1)
  have g1 := HG.out W1 (Aside1.refl _ _)
  have h1 := must_calls HR1.out tLeft
  have HX : Hid (∀ W (l : List Ex) v, SliceOf exE 7 (since W1.heap.size W) l v → SliceOf exE 7 (since w.heap.size W) l v) := fun W l v q => SliceOf.stays exE_stays (since_mono _ (Nat.le_of_lt HN.out)) q
  clear hB1 hb1 h
  cases hm : mustP T E tLeft k with
  | bad c a =>
    rw [hm] at h1
    have HPE : Hid (argsQ T E p k = .bad c a) := by unfold Hid; rw [HP.out, hm]; rfl
    unfold tLeft at h1
    have H1 := Lib.hid h1
    clear h1 hm
    go_enter Tryz.func119, Tryz.ntmps119
    go_wp2_with (fail)
    refine H1.out.mono ?_
    rintro e w2 ⟨ha, rfl, hlf⟩
    have HA := Lib.hid (HA1.out.trans ha)
    have HLF := Lib.hid hlf
    clear hlf ha
    go_wp2_with (fail)
    rw [HPE.out]
    exact ⟨rfl, HA.out, rfl, HLF.out⟩
  | ok u k1 =>
    rw [hm] at h1
    have HPE : Hid (argsQ T E p k = if tkIs T k1 tRight then .ok [] (k1 + 1) else (listP T E p 4 tComma k1).bind fun l k2 => (mustP T E tRight k2).bind fun _ k3 => .ok l k3) := by unfold Hid; rw [HP.out, hm]; rfl
    unfold tLeft at h1
    have H1 := Lib.hid h1
    clear h1 hm HP
    cases hs : tkIs T k1 tRight with
    | true =>
      rw [hs] at HPE
      go_enter Tryz.func119, Tryz.ntmps119
      go_wp2_with (fail)
      refine H1.out.mono ?_
      rintro e w2 ⟨ha, v2, rfl, hr2, rfl⟩
      have HA2 := Lib.hid ha
      have g2 := HG.out w2 ha
      have h2 := eat_yes hr2 tRight hs
      unfold tRight at h2
      have H2 := Lib.hid h2
      clear ha hr2 h2 hs g1 eW H1
      go_wp2_with (fail)
      refine H2.out.mono ?_
      rintro e w3 ⟨rfl, ha, hr3⟩
      have HA3 := Lib.hid (HA1.out.trans (HA2.out.trans ha))
      have HR3 := Lib.hid hr3
      clear ha hr3 g2
      go_wp2_with (fail)
      go_ret
      rw [HPE.out]
      exact ⟨HA3.out, _, rfl, HR3.out, ⟨none, 0, rfl, Nat.le_refl _, by unfold maxLen; decide, .inl rfl⟩⟩
    | false =>
      rw [hs] at HPE
      go_enter Tryz.func119, Tryz.ntmps119
      go_wp2_with (fail)
      refine H1.out.mono ?_
      rintro e w2 ⟨ha, v2, rfl, hr2, rfl⟩
      have HA2 := Lib.hid ha
      have g2 := HG.out w2 ha
      have h2 := eat_no hr2 tRight hs
      unfold tRight at h2
      have H2 := Lib.hid h2
      clear ha hr2 h2 hs g1 eW H1
      go_wp2_with (fail)
      refine H2.out.mono ?_
      rintro e w3 ⟨rfl, ha, hr3⟩
      have HA3 := Lib.hid (HA2.out.trans ha)
      have g3 := HG.out w3 HA3.out
      have h3 := listEx_calls w.heap.size hr3 p 4 tComma (by decide) (by decide) (fun W k ha hr => args1_calls HPX.out hr (HG.out W (HA3.out.trans ha)) HNE.out)
      have HSZ3 : Hid (W1.heap.size ≤ w3.heap.size) := HA3.out.size
      clear ha hr3 g2 H2 HA2
      cases hl : listP T E p 4 tComma k1 with
      | bad c a =>
        rw [hl] at h3 HPE
        unfold tComma at h3
        have H3 := Lib.hid h3
        clear h3 hl
        go_wp2_with (fail)
        refine H3.out.mono ?_
        rintro e w4 ⟨ha, rfl, hlf⟩
        have HA := Lib.hid (HA1.out.trans (HA3.out.trans ha))
        have HLF := Lib.hid hlf
        clear hlf ha
        go_wp2_with (fail)
        rw [HPE.out]
        exact ⟨rfl, HA.out, rfl, HLF.out⟩
      | ok l k2 =>
        rw [hl] at h3 HPE
        unfold tComma at h3
        have H3 := Lib.hid h3
        clear h3 hl
        go_wp2_with (fail)
        refine H3.out.mono ?_
        rintro e w4 ⟨ha, v4, rfl, hr4, hs4⟩
        have HA4 := Lib.hid (HA3.out.trans ha)
        have HS4 : Hid (SliceOf exE 7 (since W1.heap.size w4) l v4) := SliceOf.stays exE_stays (since_mono _ HSZ3.out) hs4
        have g4 := HG.out w4 HA4.out
        have h4 := must_calls hr4 tRight
        obtain ⟨p4, n4, c4, rfl⟩ : ∃ p4 n4 c4, v4 = .slice p4 n4 c4 := by obtain ⟨p, c, e, _⟩ := hs4; exact ⟨_, _, _, e⟩
        clear ha hr4 hs4 g3 H3
        cases hm2 : mustP T E tRight k2 with
        | bad c a =>
          rw [hm2] at h4
          have HPF : Hid (argsQ T E p k = .bad c a) := by unfold Hid; rw [HPE.out]; show (mustP T E tRight k2).bind _ = _; rw [hm2]; rfl
          unfold tRight at h4
          have H4 := Lib.hid h4
          clear h4 hm2
          go_wp2_with (fail)
          refine H4.out.mono ?_
          rintro e w5 ⟨ha, rfl, hlf⟩
          have HA := Lib.hid (HA1.out.trans (HA4.out.trans ha))
          have HLF := Lib.hid hlf
          clear hlf ha
          go_wp2_with (fail)
          rw [HPF.out]
          exact ⟨rfl, HA.out, rfl, HLF.out⟩
        | ok u5 k3 =>
          rw [hm2] at h4
          have HPF : Hid (argsQ T E p k = .ok l k3) := by unfold Hid; rw [HPE.out]; show (mustP T E tRight k2).bind _ = _; rw [hm2]; rfl
          unfold tRight at h4
          have H4 := Lib.hid h4
          clear h4 hm2
          go_wp2_with (fail)
          refine H4.out.mono ?_
          rintro e w5 ⟨ha, v5, rfl, hr5, rfl⟩
          have HA := Lib.hid (HA1.out.trans (HA4.out.trans ha))
          have HR5 := Lib.hid hr5
          have HS5 := Lib.hid (SliceOf.stays exE_stays (since_aside ha HBL.out) HS4.out)
          clear ha hr5
          go_wp2_with (fail)
          go_ret
          rw [HPF.out]
          exact ⟨HA.out, _, rfl, HR5.out, HX.out _ _ _ HS5.out⟩
end
end Go.Proofs.YtfigfefpejpboaaGreatDoor
namespace Go.Proofs.YtfigfefpejpboaaGreatDoor
open Go.RowKit Go.Maps
set_option linter.unusedVariables false
set_option linter.unusedSimpArgs false

/-- What an expression in a box lies in: nothing old, and not the box. -/
abbrev unbox (n1 n5 : Nat) (w : World) : World := hide (fun b => decide (b < n1) || b == n5) w
/-- What stands in the loop of signs. -/
structure XI (w wo : World) (n5 : Nat) (B : Nat) (T : List Tok) (E : Int) (tv : Value) (dp ns : Nat) (x : Ex) (vl va : Value) (k : Nat) : Prop where
  rdr : Rdr wo B T E tv k dp ns
  aside : Aside1 B w wo
  res : Blk wo w.heap.size zeroC 26
  box : Blk wo n5 [.int .i64 x.kind, .int .i64 x.at_, .int .i64 x.num, .int .i64 x.ty, .string x.name, vl, va] 26
  lab : Lbl (unbox (w.heap.size + 1) n5 wo) x.lab vl
  kids : Exs (unbox (w.heap.size + 1) n5 wo) x.kids va
  old : w.heap.size < n5
section
variable {w wo wn w6 w7 : World} {n5 B : Nat} {T : List Tok} {E : Int} {tv : Value} {dp ns : Nat} {x y : Ex} {vl va : Value} {k k' : Nat}
theorem unbox_keeps {n1 n5 : Nat} (hs : wo.heap.size ≤ wn.heap.size) (h : ∀ b, b < wo.heap.size → n1 ≤ b → b ≠ n5 → wn.heap[b]? = wo.heap[b]?) : Keeps (unbox n1 n5 wo) (unbox n1 n5 wn) :=
  keeps_hide hs fun b hb hp => ⟨hp, h b hb (by simp at hp; omega) (by simp at hp; exact hp.2)⟩
theorem XI.step (h : XI w wo n5 B T E tv dp ns x vl va k) (hB : B < w.heap.size) (ha : Aside1 B wo wn) (hr : Rdr wn B T E tv k' dp ns) : XI w wn n5 B T E tv dp ns x vl va k' := by
  have hk : Keeps (unbox (w.heap.size + 1) n5 wo) (unbox (w.heap.size + 1) n5 wn) := unbox_keeps ha.size fun b hb h1 h2 => ha.block b hb (fun e => by simp at e; omega)
  exact ⟨hr, h.aside.trans ha, h.res.aside ha (by omega), h.box.aside ha (by have := h.old; omega), h.lab.stays hk, h.kids.stays hk, h.old⟩
theorem XI.below (h : XI w wo n5 B T E tv dp ns x vl va k) (hB : B < w.heap.size) (hb : Below wo.heap.size wo wn) : XI w wn n5 B T E tv dp ns x vl va k :=
  h.step hB (aside_below hb) (h.rdr.below hb)
theorem XI.is (h : XI w wo n5 B T E tv dp ns x vl va k) : ExIs (unbox (w.heap.size + 1) n5 wo) x (.agg #[.int .i64 x.kind, .int .i64 x.at_, .int .i64 x.num, .int .i64 x.ty, .string x.name, vl, va]) := ⟨vl, va, rfl, h.lab, h.kids⟩
/-- An expression's cells. -/
abbrev exC (x : Ex) (vl va : Value) : List Value := [.int .i64 x.kind, .int .i64 x.at_, .int .i64 x.num, .int .i64 x.ty, .string x.name, vl, va]
theorem exC_of {W : World} {x : Ex} {vl va : Value} (h1 : Lbl W x.lab vl) (h2 : Exs W x.kids va) : exE W x (exC x vl va) := by
  obtain ⟨kind, at_, n, ty, name, l, a⟩ := x
  exact exE_mk h1 h2
/-- The first one is laid into its box. -/
theorem XI.first (h0 : Rdr w B T E tv k dp ns) {w1 w2 : World} (e1 : w1 = w.alloc (.cells zeroC.toArray 26)) (ha : Aside1 B w1 w2) (hr : Rdr w2 B T E tv k' dp ns) (hl : Lbl (since w1.heap.size w2) x.lab vl) (hk : Exs (since w1.heap.size w2) x.kids va) :
    XI w (w2.alloc (.cells (exC x vl va).toArray 26)) w2.heap.size B T E tv dp ns x vl va k' := by
  have hb1 : Below w.heap.size w w1 := by rw [e1]; exact (Below.refl _ _).alloc (Nat.le_refl _) _
  have hn1 : w1.heap.size = w.heap.size + 1 := by rw [e1]; simp
  have hB := h0.lt
  have hres : Blk w1 w.heap.size zeroC 26 := by rw [e1]; exact Blk.new _ _ _
  have hb3 : Below w2.heap.size w2 (w2.alloc (.cells (exC x vl va).toArray 26)) := (Below.refl _ _).alloc (Nat.le_refl _) _
  have hsz := ha.size
  have hkp : Keeps (since w1.heap.size w2) (unbox (w.heap.size + 1) w2.heap.size (w2.alloc (.cells (exC x vl va).toArray 26))) := keeps_hide hb3.size fun b hb hp => ⟨by simp at hp ⊢; omega, hb3.block b hb⟩
  exact ⟨hr.below hb3, (aside_below hb1).trans (ha.trans (aside_below hb3)), (hres.aside ha (by omega)).below hb3, Blk.new _ _ _, hl.stays hkp, hk.stays hkp, by omega⟩
/-- The next sign's operands are put together. -/
theorem XI.next {k0 dp0 ns0 : Nat} (h : XI w w7 n5 B T E tv dp ns x vl va k) (h0 : Rdr w B T E tv k0 dp0 ns0) (hB : B < w.heap.size) {vl' va' : Value} (hn5 : n5 < w6.heap.size) (hl : Lbl (since w6.heap.size w7) y.lab vl') (hk : Exs (since w6.heap.size w7) y.kids va') (kind at_ : Int) (name : Txt) {wf : World}
    (ef : wf = sev (w7.alloc (.cells (exC x vl va ++ exC y vl' va').toArray 26)) n5 (.int .i64 kind) (.int .i64 at_) (.int .i64 0) (.int .i64 0) (.string name) (.slice none 0 0) (.slice (some ⟨w7.heap.size, 0, none⟩) 2 2)) (h67 : w6.heap.size ≤ w7.heap.size) (h6 : w.heap.size < w6.heap.size) :
    XI w wf n5 B T E tv dp ns (.mk kind at_ 0 0 name [] [x, y]) (.slice none 0 0) (.slice (some ⟨w7.heap.size, 0, none⟩) 2 2) k := by
  obtain ⟨w8, e8⟩ : ∃ w8, w7.alloc (.cells (exC x vl va ++ exC y vl' va').toArray 26) = w8 := ⟨_, rfl⟩
  have hb8 : Below w7.heap.size w7 w8 := by rw [← e8]; exact (Below.refl _ _).alloc (Nat.le_refl _) _
  have h8 := h.below hB hb8
  have hnew : Blk w8 w7.heap.size (exC x vl va ++ exC y vl' va') 26 := by rw [← e8]; exact Blk.new _ _ _
  rw [e8] at ef
  have hne : n5 ≠ w7.heap.size := by omega
  have hold := h.old
  have hsz : wf.heap.size = w8.heap.size := by rw [ef]; exact sev_size
  have hsame : ∀ b, b ≠ n5 → wf.heap[b]? = w8.heap[b]? := fun b hb => by rw [ef]; exact sev_block (fun e => hb e.symm)
  have hA : Aside1 B w wf := by rw [ef]; exact aside_sev h8.aside (by omega)
  have hkp : Keeps (unbox (w.heap.size + 1) n5 w8) (unbox (w.heap.size + 1) n5 wf) := unbox_keeps (by omega) fun b hb h1 h2 => hsame b h2
  have hx := exC_of (h8.lab.stays hkp) (h8.kids.stays hkp)
  have hkq : Keeps (since w6.heap.size w7) (unbox (w.heap.size + 1) n5 wf) := keeps_hide (by have := hb8.size; omega) fun b hb hp => by
    simp at hp
    exact ⟨by simp; omega, (hsame b (by omega)).trans (hb8.block b hb)⟩
  have hy := exC_of (hl.stays hkq) (hk.stays hkq)
  refine ⟨⟨?_, h0.toks.stays hA.keeps, h0.tab.aside hA⟩, hA, ?_, ?_, ⟨none, 0, rfl, Nat.le_refl _, by unfold maxLen; decide, .inl rfl⟩, ?_, hold⟩
  · rw [hsame B (by omega)]; exact h8.rdr.blk
  · exact (hsame _ (by omega)).trans h8.res
  · rw [ef]; exact Blk.sev h8.box
  · refine ⟨_, 2, rfl, Nat.le_refl _, by unfold maxLen; decide, .inr ⟨w7.heap.size, 0, rfl, fun i hi => ?_⟩⟩
    have hc : ∀ j, (unbox (w.heap.size + 1) n5 wf).cell? ⟨w7.heap.size, j, none⟩ = (exC x vl va ++ exC y vl' va')[j]? := fun j => by
      have hp : (decide (w7.heap.size < w.heap.size + 1) || w7.heap.size == n5) = false := by
        rw [Bool.or_eq_false_iff]
        exact ⟨decide_eq_false (by omega), beq_false_of_ne (by omega)⟩
      refine (hide_cell (fun b => decide (b < w.heap.size + 1) || b == n5) wf w7.heap.size j).trans ?_
      simp only [hp, Bool.false_eq_true, if_false]
      rw [World.cell?_of_block (a := ⟨w7.heap.size, j, none⟩) (hsame w7.heap.size (by omega))]
      exact hnew.cell j
    have hi2 : i = 0 ∨ i = 1 := by have e : [x, y].length = 2 := rfl; have hi' : i < [x, y].length := hi; omega
    rcases hi2 with rfl | rfl
    · refine ⟨exC x vl va, hx, rfl, fun j u hu => ?_⟩
      rw [hc, List.getElem?_append_left (by have := (List.getElem?_eq_some_iff.1 hu).1; omega)]
      simpa using hu
    · refine ⟨exC y vl' va', hy, rfl, fun j u hu => ?_⟩
      rw [hc, List.getElem?_append_right (by simp)]
      simpa using hu
end
theorem below_drew1 (w : World) : Below w.heap.size w w.drew := (Below.refl _ _).drew
theorem expr_out {w wo : World} {n5 B : Nat} {T : List Tok} {E : Int} {tv : Value} {dp ns k0 dp0 ns0 : Nat} {y : Ex} {vl va : Value} {k : Nat} (h0 : Rdr w B T E tv k0 dp0 ns0) (h : XI w wo n5 B T E tv dp ns y vl va k) (hB : B < w.heap.size) :
    Does w B T E tv dp ns ExIs (.ok y k) (.returned (.agg #[.int .i64 y.kind, .int .i64 y.at_, .int .i64 y.num, .int .i64 y.ty, .string y.name, vl, va])) (sev wo w.heap.size (.int .i64 y.kind) (.int .i64 y.at_) (.int .i64 y.num) (.int .i64 y.ty) (.string y.name) vl va) := by
  have hA := aside_sev (a := .int .i64 y.kind) (b := .int .i64 y.at_) (c := .int .i64 y.num) (d := .int .i64 y.ty) (e := .string y.name) (f := vl) (g := va) h.aside (Nat.le_refl _)
  refine ⟨hA, _, rfl, h0.via hA (sev_block (by omega)) h.rdr, h.is.stays (keeps_hide (by rw [sev_size]; exact Nat.le_refl _) fun b hb hp => ⟨?_, sev_block ?_⟩)⟩
  · simp at hp ⊢; omega
  · simp at hp; omega
theorem opLoop_stop {T : List Tok} {one : Nat → Rs Ex} {n : Int} {y : Ex} {k : Nat} (f : Nat) (h : (tkNext T k).1 ≠ 4 ∨ levelT (tkNext T k).2.2 ≠ n) : opLoop T one n f y k = .ok y k := by
  cases f with
  | zero => rfl
  | succ f => rw [opLoop, if_pos h]
/-- What is asked of tree.Level. -/
def LevelC : Prop := ∀ (s : Txt) (W : World), Tab W → Calls Tryz.prog 27 #[.string s] W fun e w' => e = .returned (.int .i64 (levelT s)) ∧ Below W.heap.size W w'
section
variable {w : World} {B : Nat} {T : List Tok} {E : Int} {tv : Value} {k dp ns : Nat}
set_option maxHeartbeats 2000000 in
set_option maxRecDepth 100000 in
theorem expr_six {prim : Nat → Rs Ex} (hp : ReadsEx B T E tv dp ns 71 #[.pointer (some ⟨B, 0, none⟩)] prim) (h : Rdr w B T E tv k dp ns) :
    Calls Tryz.prog 36 #[.pointer (some ⟨B, 0, none⟩), .int .i64 6] w (Does w B T E tv dp ns ExIs (prim k)) := by
  obtain ⟨W1, eW⟩ : ∃ W1, w.alloc (.cells #[.int .i64 0, .int .i64 0, .int .i64 0, .int .i64 0, .string ⟨#[]⟩, .slice none 0 0, .slice none 0 0] 26) = W1 := ⟨_, rfl⟩
  have hB1 : Blk W1 w.heap.size zeroC 26 := by rw [← eW]; exact Blk.new _ _ _
  have hb1 : Below w.heap.size w W1 := by rw [← eW]; exact (Below.refl _ _).alloc (Nat.le_refl _) _
  have HN : Hid (w.heap.size < W1.heap.size) := hB1.lt
  have HNE : Hid (w.heap.size ≠ B) := by have := h.lt; unfold Hid; omega
  have HB1 := Lib.hid hB1
  have HA1 := Lib.hid (aside_below (B := B) hb1)
  have h1 := hp W1 k (h.below hb1)
  have H0 := Lib.hid h
  clear hB1 hb1 h hp
  cases hr : prim k with
  | bad c a =>
    rw [hr] at h1
    have H1 := Lib.hid h1
    clear h1 hr
    go_enter Tryz.func36, Tryz.ntmps36
    go_wp2_with (fail)
    refine H1.out.mono ?_
    rintro e w2 ⟨ha, rfl, hlf⟩
    have HA := Lib.hid (HA1.out.trans ha)
    have HLF := Lib.hid hlf
    clear hlf ha
    go_wp2_with (fail)
    exact ⟨rfl, HA.out, rfl, HLF.out⟩
  | ok x k1 =>
    rw [hr] at h1
    have H1 := Lib.hid h1
    clear h1 hr
    go_enter Tryz.func36, Tryz.ntmps36
    go_wp2_with (fail)
    refine H1.out.mono ?_
    rintro e w2 ⟨ha, v2, rfl, hr2, hx2⟩
    have HA2 := Lib.hid (HA1.out.trans ha)
    have hB2 := HB1.out.aside ha HNE.out
    have HB2 := Lib.hid hB2
    have HR2 := Lib.hid hr2
    have HX2 := Lib.hid hx2
    obtain ⟨vl, va, rfl, hvl, hva⟩ := hx2
    obtain ⟨pl, cl, rfl, _⟩ := hvl
    obtain ⟨pa, ca, rfl, _⟩ := hva
    obtain ⟨c0, c1, c2, c3, c4, c5, c6⟩ := Blk.cells7 hB2
    obtain ⟨f0, f1, f2, f3, f4, f5, f6⟩ := Blk.fz7 hB2
    clear ha hB2 hr2 H1 eW
    go_wp2_with (fail)
    refine bodyPost_ret (v := .agg #[.int .i64 x.kind, .int .i64 x.at_, .int .i64 x.num, .int .i64 x.ty, .string x.name, .slice pl x.lab.length cl, .slice pa x.kids.length ca]) ?_ rfl ?_
    · obtain ⟨q0, q1, q2, q3, q4, q5, q6⟩ := (Blk.sev (a := .int .i64 x.kind) (b := .int .i64 x.at_) (c := .int .i64 x.num) (d := .int .i64 x.ty) (e := .string x.name) (f := .slice pl x.lab.length cl) (g := .slice pa x.kids.length ca) HB2.out).cells7
      unfold sev at q0 q1 q2 q3 q4 q5 q6
      simp [results, Tryz.results36, go_sem, q0, q1, q2, q3, q4, q5, q6]
    · have hA9 := aside_sev (a := .int .i64 x.kind) (b := .int .i64 x.at_) (c := .int .i64 x.num) (d := .int .i64 x.ty) (e := .string x.name) (f := .slice pl x.lab.length cl) (g := .slice pa x.kids.length ca) HA2.out (Nat.le_refl _)
      exact ⟨hA9, _, rfl, H0.out.via hA9 (sev_block HNE.out) HR2.out, HX2.out.stays ((since_sev HN.out).trans (since_mono _ (Nat.le_of_lt HN.out)))⟩
end
end Go.Proofs.YtfigfefpejpboaaGreatDoor
