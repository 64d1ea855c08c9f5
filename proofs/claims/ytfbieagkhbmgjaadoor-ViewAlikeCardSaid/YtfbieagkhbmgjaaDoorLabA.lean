/-
  Labels: a set of pairs in a map; who acts for whom; what a policy lets, and covers; what may go where.
-/
import Derived.Test.YtfbieagkhbmgjaaDoorChiefB
import Derived.Test.YtfbieagkhbmgjaaDoorFuncs
import Derived.Test.YtfbieagkhbmgjaaDoorLaw
import Derived.Maps.OwnSet
import Derived.Maps.Views
import Derived.DeepKeys4
namespace Go.Proofs.YtfbieagkhbmgjaaDoor
open Go.RowKit Go.Maps
set_option linter.unusedVariables false
set_option linter.unusedSimpArgs false

theorem law_pair : Keyed Tryd.prog 33 :=
  Keyed.of_law (deep_law_laid Tryd.laidOut (m := 2) (by omega) (of_decide_eq_true (by kernel_rfl)) (by kernel_rfl) (by rw [Tryd.underlying33]))
theorem zero_unit (w : World) : (zeroValue 104).run Tryd.prog w = .ok (.agg #[]) w := by kernel_rfl
/-- What a pair of texts reads as, as a key. -/
def pk (a b : Txt) : Lit := .string (keyBytes [.string a.data.toList, .string b.data.toList])
theorem pk_key {a b : Txt} (ha : okTxt a) (hb : okTxt b) : keyOf Tryd.prog 33 (.agg #[.string a, .string b]) = some (pk a b) := by
  have hf : (Value.agg #[.string a, .string b]).formed Tryd.prog 33 = true := by
    have hc : Tryd.prog.cellsOf 33 = 2 := by kernel_rfl
    simp [Value.formed, Tryd.underlying33, hc]
  have hk : Tryd.prog.keyType 33 = true := by kernel_rfl
  have hc2 : Tryd.prog.cellsOf 33 = 2 := by kernel_rfl
  have hc1 : Tryd.prog.cellsOf 9 = 1 := by kernel_rfl
  have ha' : a.size ≤ maxLen := by unfold okTxt at ha; unfold maxLen; omega
  have hb' : b.size ≤ maxLen := by unfold okTxt at hb; unfold maxLen; omega
  have hz : ∃ m, Tryd.prog.types.size = m + 1 := ⟨Tryd.prog.types.size - 1, by have : 0 < Tryd.prog.types.size := of_decide_eq_true (by kernel_rfl); omega⟩
  obtain ⟨m, hm⟩ := hz
  have hl : Tryd.prog.keyLits (Tryd.prog.types.size + 1) 33 [.string a, .string b] = some [.string a.data.toList, .string b.data.toList] := by
    rw [hm]
    simp [Program.keyLits, Tryd.underlying33, Tryd.underlying9, hc2, hc1, List.range, List.range.loop, ha', hb']
  unfold keyOf
  rw [Tryd.underlying33]
  simp only [hk, hf, Bool.and_self, if_true, Value.cells, hl, Option.map_some, pk]
theorem pk_inj {a b c d : Txt} (ha : okTxt a) (hb : okTxt b) (hc : okTxt c) (hd : okTxt d) (h : pk a b = pk c d) : a = c ∧ b = d := by
  have h1 := pk_key ha hb
  have h2 := pk_key hc hd
  rw [← h] at h2
  have := law_pair.inj h1 h2
  simp at this
  exact this

/-- A set of pairs lies in a map. -/
def PairsAt (w : World) (r : Nat) (q : Txt → Txt → Bool) : Prop := ∃ n D, w.ownsMap Tryd.prog 33 (unitElem (H := Unit)) r n D ∧ n ≤ 1000 ∧ ∀ a b, okTxt a → okTxt b → Maps.has D (pk a b) = q a b
theorem PairsAt.lt {w : World} {r : Nat} {q : Txt → Txt → Bool} (h : PairsAt w r q) : r < w.heap.size := by
  obtain ⟨n, D, h, _⟩ := h
  exact h.lt
theorem PairsAt.below {w w' : World} {r : Nat} {q : Txt → Txt → Bool} (h : PairsAt w r q) (hb : Below w.heap.size w w') : PairsAt w' r q := by
  have hl := h.lt
  obtain ⟨n, D, ⟨es, cl, h1, h2⟩, h3⟩ := h
  exact ⟨n, D, ⟨es, cl, (hb.block r hl).trans h1, h2⟩, h3⟩

theorem PairsAt.setCell {w : World} {r : Nat} {q : Txt → Txt → Bool} (h : PairsAt w r q) {a : Addr} (ha : r ≠ a.block) (u : Value) : PairsAt (w.setCell a u) r q := by
  obtain ⟨n, D, h1, h3⟩ := h
  exact ⟨n, D, h1.setCell ha u, h3⟩

/-- A policy: who owns it, whom it lets read. -/
abbrev Pol := Txt × List Txt
abbrev Lab := List Pol
def pol : Enc Pol := Both txt (Sl txt 1)
theorem pol_stays : Stays pol := Both.stays (One.stays _) (Sl.stays (One.stays _) 1)
/-- `api.Label`. -/
abbrev Lbl (w : World) (l : Lab) (v : Value) : Prop := SliceOf pol 2 w l v
theorem Lbl.stays {w w' : World} (hk : Keeps w w') {l : Lab} {v : Value} (h : Lbl w l v) : Lbl w' l v := SliceOf.stays pol_stays hk h
def okPol : Pol → Prop := okBoth okTxt (okList okTxt)
abbrev okLab : Lab → Prop := okList okPol
def szPol : Pol → Nat := szBoth szTxt (szList szTxt)
theorem rdPol : Rd Tryd.prog 85 pol okPol szPol :=
  Rd.struct (tot := 2) Tryd.underlying85 (by kernel_rfl) (Rdf.cons (k := 1) (o' := 1) rfl rfl (by kernel_rfl) rfl (Rd.txt Tryd.underlying9) (Rdf.last (k := 1) rfl rfl (by kernel_rfl) rdStrs))
theorem rdLabel : Rd Tryd.prog 50 (Sl pol 2) okLab (szList szPol) := Rd.slice Tryd.underlying50 (by decide) (by kernel_rfl) rdPol
/-- A label's cells. -/
theorem Lbl.cells {w : World} {l : Lab} {v : Value} (h : Lbl w l v) :
    ∃ b o c p, v = .slice p l.length c ∧ l.length ≤ c ∧ c ≤ 9223372036854775807 ∧ (0 < l.length → p = some ⟨b, o, none⟩) ∧
      ∀ (i : Nat) (h : i < l.length), ∃ u, w.cell? ⟨b, o + i * 2, none⟩ = some (.string l[i].1) ∧ w.cell? ⟨b, o + i * 2 + 1, none⟩ = some u ∧ Strs w l[i].2 u := by
  obtain ⟨p, c, e, h1, h2, h3⟩ := h
  unfold maxLen at h2
  rcases h3 with rfl | ⟨b, o, hp, h3⟩
  · exact ⟨0, 0, c, p, e, h1, by omega, fun h => absurd h (by simp), fun i h => absurd h (by simp)⟩
  · refine ⟨b, o, c, p, e, h1, by omega, fun _ => hp, fun i hi => ?_⟩
    obtain ⟨vs, ⟨us, us', e1, e2, ⟨u, e3, e4⟩⟩, g2, g3⟩ := h3 i hi
    have e2' : us = [.string l[i].1] := e2
    subst e2' e3 e1
    exact ⟨u, by simpa using g3 0 _ rfl, by simpa using g3 1 _ rfl, e4⟩

def letsB (q : Txt → Txt → Bool) (p : Pol) (s : Txt) : Bool := q s p.1 || anyBy p.2 fun r => q s r
def coversB (q : Txt → Txt → Bool) (p x : Pol) : Bool := q p.1 x.1 && !anyBy p.2 fun r => !letsB q x r
def flowsB (q : Txt → Txt → Bool) (a b : Lab) : Bool := !anyBy a fun x => !anyBy b fun p => coversB q p x

section
variable (q : Txt → Txt → Bool) (vc : Value) (r : Nat)

theorem wacts_calls (a b : Txt) (w : World) (hp : PairsAt w r q) (ha : okTxt a) (hb : okTxt b) :
    Calls Tryd.prog 70 #[.agg #[vc, .map (some r)], .string a, .string b] w fun e w' => e = .returned (.bool (q a b)) ∧ Below w.heap.size w w' := by
  obtain ⟨n, D, hown, hn, hq⟩ := hp
  have hq' := hq a b ha hb
  have HQ := Lib.hid hq'
  clear hq hq'
  go_enter Tryd.func70, Tryd.ntmps70
  go_wp2_with (at_lookup; refine wpList_lookup_own_unit _ rfl _ _ 90 rfl 33 104 law_pair Tryd.underlying90 (zero_unit _) r n D rfl (hown.alloc _) _ _ rfl (pk_key ha hb) ?_)
  go_ret
  exact ⟨ret_bool HQ.out, ((Below.refl _ _).alloc (Nat.le_refl _) _).alloc (by simp) _⟩

theorem letsF_calls (s x : Txt) (g1 g2 : Nat) (w : World) (hp : PairsAt w r q) (hs : okTxt s) (hx : okTxt x)
    (h1 : w.cell? ⟨g1, 0, none⟩ = some vc) (h2 : w.cell? ⟨g1, 1, none⟩ = some (.map (some r))) (h3 : w.cell? ⟨g2, 0, none⟩ = some (.string s)) :
    Calls Tryd.prog 71 #[.string x, .pointer (some ⟨g1, 0, none⟩), .pointer (some ⟨g2, 0, none⟩)] w fun e w' => e = .returned (.bool (q s x)) ∧ Below w.heap.size w w' := by
  go_enter Tryd.func71, Tryd.ntmps71
  go_wp2_with (fail)
  refine (wacts_calls q vc r s x _ hp hs hx).mono ?_
  rintro e w1 ⟨rfl, hb⟩
  go_wp2
  go_ret
  exact ⟨rfl, hb⟩

theorem lets_calls (p : Pol) (s : Txt) (vr : Value) (w : World) (hp : PairsAt w r q) (hpo : okPol p) (hs : okTxt s) (hr : Strs w p.2 vr) :
    Calls Tryd.prog 54 #[.agg #[vc, .map (some r)], .agg #[.string p.1, vr], .string s] w fun e w' => e = .returned (.bool (letsB q p s)) ∧ Below w.heap.size w w' := by
  obtain ⟨o, rs⟩ := p
  have ho : okTxt o := hpo.1
  have hrs : ∀ x ∈ rs, okTxt x := hpo.2
  have hr0 := hr
  obtain ⟨b0, o0, c0, p0, rfl, hlc, hcm, hp', hcells⟩ := hr.cells
  obtain ⟨W3, eW⟩ : ∃ W3, ((w.alloc (.cells #[vc, .map (some r)] 92)).alloc (.cells #[.string o, .slice p0 rs.length c0] 85)).alloc (.cells #[.string s] 9) = W3 := ⟨_, rfl⟩
  obtain ⟨z3, hW, m1, m2, m3⟩ := boxes3 eW
  have HW := Lib.hid hW
  have HP := Lib.hid hp
  have HZ := Lib.hid z3
  have hc1 := m1 0
  have hc2 := m1 1
  have hc3 := m2 0
  have hc4 := m2 1
  have hc5 := m3 0
  simp only [List.getElem?_toArray, List.getElem?_cons_zero, List.getElem?_cons_succ] at hc1 hc2 hc3 hc4 hc5
  have HC1 := Lib.hid hc1
  have HC2 := Lib.hid hc2
  have HC5 := Lib.hid hc5
  clear m1 m2 m3 hW z3
  have eg : ∀ args w, (callFunc 71 args).run Tryd.prog w = .ok (.enter 71 args) w := enters_at Tryd.func71 (by kernel_rfl) rfl
  have HEG := Lib.hid eg
  clear hp hp' hcells hr eg
  have HL : Hid (letsB q (o, rs) s = (q s o || anyBy rs fun x => q s x)) := rfl
  cases hq : q s o with
  | true =>
    have HL2 : Hid (letsB q (o, rs) s = true) := by show letsB q (o, rs) s = true; rw [HL.out, hq]; rfl
    go_enter Tryd.func54, Tryd.ntmps54
    go_wp2_with (fail)
    refine (wacts_calls q vc r s o _ (HP.out.below HW.out) hs ho).mono ?_
    rintro e w1 ⟨rfl, hb⟩
    rw [hq]
    clear hq
    go_wp2
    go_ret
    exact ⟨ret_bool HL2.out.symm, HW.out.trans (hb.mono HW.out.size)⟩
  | false =>
    have HL2 : Hid (letsB q (o, rs) s = anyBy rs fun x => q s x) := by show letsB q (o, rs) s = _; rw [HL.out, hq]; rfl
    go_enter Tryd.func54, Tryd.ntmps54
    go_wp2_with (fail)
    refine (wacts_calls q vc r s o _ (HP.out.below HW.out) hs ho).mono ?_
    rintro e w1 ⟨rfl, hb⟩
    rw [hq]
    clear hq
    have hbw : Below w.heap.size w w1 := HW.out.trans (hb.mono HW.out.size)
    have HBW := Lib.hid hbw
    have HB := Lib.hid hb
    have hc4' : w1.cell? ⟨w.heap.size + 1, 1, none⟩ = some (.slice p0 rs.length c0) := (hb.cell (p := ⟨w.heap.size + 1, 1, none⟩) (by have := HZ.out; simp only; omega)).trans hc4
    clear hc4
    go_wp2_with (fail)
    refine (containsFunc_calls rs _ 71 #[.pointer (some ⟨w.heap.size, 0, none⟩), .pointer (some ⟨w.heap.size + 1 + 1, 0, none⟩)] (fun x => q s x) _ (hr0.stays (keeps_of_below HBW.out)) HEG.out ?_).mono ?_
    · intro x hx w2 hb2
      have hb2' : Below W3.heap.size W3 w2 := HB.out.trans (hb2.mono HB.out.size)
      have hz := HZ.out
      exact letsF_calls q vc r s x w.heap.size (w.heap.size + 1 + 1) w2 (HP.out.below (HBW.out.trans (hb2.mono HBW.out.size))) hs (hrs x hx)
        ((hb2'.cell (p := ⟨w.heap.size, 0, none⟩) (by simp only; omega)).trans HC1.out) ((hb2'.cell (p := ⟨w.heap.size, 1, none⟩) (by simp only; omega)).trans HC2.out) ((hb2'.cell (p := ⟨w.heap.size + 1 + 1, 0, none⟩) (by simp only; omega)).trans HC5.out)
    · rintro e w2 ⟨rfl, hb2⟩
      go_wp2
      go_ret
      exact ⟨ret_bool HL2.out.symm, HBW.out.trans (hb2.mono HBW.out.size)⟩

theorem coversF_calls (x : Pol) (t : Txt) (vx : Value) (g1 g2 : Nat) (w : World) (hp : PairsAt w r q) (hx : okPol x) (ht : okTxt t) (hr : Strs w x.2 vx)
    (h1 : w.cell? ⟨g1, 0, none⟩ = some vc) (h2 : w.cell? ⟨g1, 1, none⟩ = some (.map (some r))) (h3 : w.cell? ⟨g2, 0, none⟩ = some (.string x.1)) (h4 : w.cell? ⟨g2, 1, none⟩ = some vx) :
    Calls Tryd.prog 82 #[.string t, .pointer (some ⟨g1, 0, none⟩), .pointer (some ⟨g2, 0, none⟩)] w fun e w' => e = .returned (.bool (!letsB q x t)) ∧ Below w.heap.size w w' := by
  go_enter Tryd.func82, Tryd.ntmps82
  go_wp2_with (fail)
  refine (lets_calls q vc r x t vx _ hp hx ht hr).mono ?_
  rintro e w1 ⟨rfl, hb⟩
  go_wp2
  go_ret
  exact ⟨rfl, hb⟩

theorem covers_calls (p x : Pol) (vp vx : Value) (w : World) (hp : PairsAt w r q) (hpo : okPol p) (hxo : okPol x) (hr : Strs w p.2 vp) (hs : Strs w x.2 vx) :
    Calls Tryd.prog 68 #[.agg #[vc, .map (some r)], .agg #[.string p.1, vp], .agg #[.string x.1, vx]] w fun e w' => e = .returned (.bool (coversB q p x)) ∧ Below w.heap.size w w' := by
  obtain ⟨o, rs⟩ := p
  obtain ⟨ox, rx⟩ := x
  have ho : okTxt o := hpo.1
  have hox : okTxt ox := hxo.1
  have hrs : ∀ x ∈ rs, okTxt x := hpo.2
  have hr0 := hr
  have hs0 := hs
  obtain ⟨b0, o0, c0, p0, rfl, hlc, hcm, hp', hcells⟩ := hr.cells
  obtain ⟨b1, o1, c1, p1, rfl, hlc1, hcm1, hp1', hcells1⟩ := hs.cells
  obtain ⟨W3, eW⟩ : ∃ W3, ((w.alloc (.cells #[vc, .map (some r)] 92)).alloc (.cells #[.string o, .slice p0 rs.length c0] 85)).alloc (.cells #[.string ox, .slice p1 rx.length c1] 85) = W3 := ⟨_, rfl⟩
  obtain ⟨z3, hW, m1, m2, m3⟩ := boxes3 eW
  have HW := Lib.hid hW
  have HP := Lib.hid hp
  have HZ := Lib.hid z3
  have hc1 := m1 0
  have hc2 := m1 1
  have hc3 := m2 0
  have hc4 := m2 1
  have hc5 := m3 0
  have hc6 := m3 1
  simp only [List.getElem?_toArray, List.getElem?_cons_zero, List.getElem?_cons_succ] at hc1 hc2 hc3 hc4 hc5 hc6
  have HC1 := Lib.hid hc1
  have HC2 := Lib.hid hc2
  have HC5 := Lib.hid hc5
  have HC6 := Lib.hid hc6
  clear m1 m2 m3 hW z3
  have eg : ∀ args w, (callFunc 82 args).run Tryd.prog w = .ok (.enter 82 args) w := enters_at Tryd.func82 (by kernel_rfl) rfl
  have HEG := Lib.hid eg
  clear hp hp' hcells hr eg hs hp1' hcells1
  have HL : Hid (coversB q (o, rs) (ox, rx) = (q o ox && !anyBy rs fun t => !letsB q (ox, rx) t)) := rfl
  cases hq : q o ox with
  | false =>
    have HL2 : Hid (coversB q (o, rs) (ox, rx) = false) := by show coversB q (o, rs) (ox, rx) = false; rw [HL.out, hq]; rfl
    go_enter Tryd.func68, Tryd.ntmps68
    go_wp2_with (fail)
    refine (wacts_calls q vc r o ox _ (HP.out.below HW.out) ho hox).mono ?_
    rintro e w1 ⟨rfl, hb⟩
    rw [hq]
    clear hq
    go_wp2
    go_ret
    exact ⟨ret_bool HL2.out.symm, HW.out.trans (hb.mono HW.out.size)⟩
  | true =>
    have HL2 : Hid (coversB q (o, rs) (ox, rx) = !anyBy rs fun t => !letsB q (ox, rx) t) := by show coversB q (o, rs) (ox, rx) = _; rw [HL.out, hq]; rfl
    go_enter Tryd.func68, Tryd.ntmps68
    go_wp2_with (fail)
    refine (wacts_calls q vc r o ox _ (HP.out.below HW.out) ho hox).mono ?_
    rintro e w1 ⟨rfl, hb⟩
    rw [hq]
    clear hq
    have hbw : Below w.heap.size w w1 := HW.out.trans (hb.mono HW.out.size)
    have HBW := Lib.hid hbw
    have HB := Lib.hid hb
    have hc4' : w1.cell? ⟨w.heap.size + 1, 1, none⟩ = some (.slice p0 rs.length c0) := (hb.cell (p := ⟨w.heap.size + 1, 1, none⟩) (by have := HZ.out; simp only; omega)).trans hc4
    clear hc4
    go_wp2_with (fail)
    refine (containsFunc_calls rs _ 82 #[.pointer (some ⟨w.heap.size, 0, none⟩), .pointer (some ⟨w.heap.size + 1 + 1, 0, none⟩)] (fun t => !letsB q (ox, rx) t) _ (hr0.stays (keeps_of_below HBW.out)) HEG.out ?_).mono ?_
    · intro t ht w2 hb2
      have hb2' : Below W3.heap.size W3 w2 := HB.out.trans (hb2.mono HB.out.size)
      have hbw2 : Below w.heap.size w w2 := HBW.out.trans (hb2.mono HBW.out.size)
      have hz := HZ.out
      exact coversF_calls q vc r (ox, rx) t _ w.heap.size (w.heap.size + 1 + 1) w2 (HP.out.below hbw2) hxo (hrs t ht) (hs0.stays (keeps_of_below hbw2))
        ((hb2'.cell (p := ⟨w.heap.size, 0, none⟩) (by simp only; omega)).trans HC1.out) ((hb2'.cell (p := ⟨w.heap.size, 1, none⟩) (by simp only; omega)).trans HC2.out)
        ((hb2'.cell (p := ⟨w.heap.size + 1 + 1, 0, none⟩) (by simp only; omega)).trans HC5.out) ((hb2'.cell (p := ⟨w.heap.size + 1 + 1, 1, none⟩) (by simp only; omega)).trans HC6.out)
    · rintro e w2 ⟨rfl, hb2⟩
      go_wp2
      go_ret
      exact ⟨ret_bool HL2.out.symm, HBW.out.trans (hb2.mono HBW.out.size)⟩

/-- A function value that tells `f` of each policy of a label, whatever is made in between. -/
def TellsPol (W : World) (l : Lab) (fn : FuncId) (cap : Array Value) (f : Pol → Bool) : Prop :=
  ∀ (x : Pol), x ∈ l → ∀ (vr : Value) (w : World), Below W.heap.size W w → Strs w x.2 vr → Calls Tryd.prog fn (#[.agg #[.string x.1, vr]] ++ cap) w fun e w' => e = .returned (.bool (f x)) ∧ Below w.heap.size w w'

theorem indexPol_calls (l : Lab) (v : Value) (fn : FuncId) (cap : Array Value) (f : Pol → Bool) (w : World) (h : Lbl w l v) (eg : ∀ args w, (callFunc fn args).run Tryd.prog w = .ok (.enter fn args) w) (hq : TellsPol w l fn cap f) :
    Calls Tryd.prog 69 #[v, .func (.func fn) #[] cap] w fun e w' => e = .returned (.int .i64 (idxBy l f)) ∧ Below w.heap.size w w' := by
  obtain ⟨b, o, c, p, rfl, hlc, hc, hp, hcells⟩ := h.cells
  go_enter Tryd.func69, Tryd.ntmps69
  go_wp2
  go_loopw [5, 8] (fun _ i wr => ∃ k : Nat, k ≤ l.length ∧ i = .int .i64 k ∧ Below w.heap.size w wr ∧ ∀ j (hj : j < l.length), j < k → f l[j] = false) (fun _ i _ => l.length - (intOf i).toNat)
  case atStart => exact ⟨0, Nat.zero_le _, rfl, Below.refl _ _, fun j _ hj => absurd hj (Nat.not_lt_zero _)⟩
  case round =>
    obtain ⟨k, hk, rfl, hb, hne⟩ := hrel
    by_cases hlt : k < l.length
    · obtain ⟨u, hca, hcb, hu⟩ := hcells k hlt
      have hcell1 : wr.cell? ⟨b, o + k * 2, none⟩ = some (.string l[k].1) := (hb.cell (cell_lt hca)).trans hca
      have hcell2 : wr.cell? ⟨b, o + k * 2 + 1, none⟩ = some u := (hb.cell (cell_lt hcb)).trans hcb
      obtain rfl := hp (by omega)
      have HN := Lib.hid hne
      clear hp hcells hca hcb hne
      have HQ := hq l[k] (List.getElem_mem hlt) u wr hb (hu.stays (keeps_of_below hb))
      clear hq hu
      cases hx : f l[k] with
      | true =>
        rw [hx] at HQ
        have HX := Lib.hid hx
        clear hx
        go_wp2_with (fail)
        refine HQ.mono ?_
        rintro e w1 ⟨rfl, hb1⟩
        go_wp2
        go_ret
        exact ⟨ret_int (idxBy_hit hlt HX.out HN.out).symm, hb.trans (hb1.mono hb.size)⟩
      | false =>
        rw [hx] at HQ
        have HX := Lib.hid hx
        clear hx
        go_wp2_with (fail)
        refine HQ.mono ?_
        rintro e w1 ⟨rfl, hb1⟩
        go_wp2
        go_roundw
        case rel =>
          refine ⟨k + 1, by omega, by go_num, hb.trans (hb1.mono hb.size), fun j hj hj' => ?_⟩
          by_cases e : j = k
          · subst e; exact HX.out
          · exact HN.out j hj (by omega)
        case measure => simp [intOf]; omega
    · go_wp2
      go_ret
      exact ⟨ret_int (idxBy_miss (fun j hj => hne j hj (by omega))).symm, hb⟩
theorem containsPol_calls (l : Lab) (v : Value) (fn : FuncId) (cap : Array Value) (f : Pol → Bool) (w : World) (h : Lbl w l v)
    (eg : ∀ args w, (callFunc fn args).run Tryd.prog w = .ok (.enter fn args) w) (hq : TellsPol w l fn cap f) :
    Calls Tryd.prog 52 #[v, .func (.func fn) #[] cap] w fun e w' => e = .returned (.bool (anyBy l f)) ∧ Below w.heap.size w w' := by
  rw [← idxBy_any]
  go_enter Tryd.func52, Tryd.ntmps52
  go_wp2_with (go_at_call 69; refine (indexPol_calls l _ fn cap f _ h eg hq).mono ?_; rintro e w' ⟨rfl, hb⟩)
  go_ret
  exact ⟨rfl, hb⟩
end
end Go.Proofs.YtfbieagkhbmgjaaDoor
