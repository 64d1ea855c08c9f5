/-
  Labels: a set of pairs in a map; who acts for whom; what a policy lets, and covers; what may go where. Data laid one behind the other in a row of cells; appending a slice of data, nil or not, onto a row of the call's own. Labels: what may go where; whether a label is right. label.check, label.Check: whether a label is right.
-/
import Derived.Test.YtcgihpfanfbonaaGreatDoorLN02
import Derived.Test.YtcgihpfanfbonaaGreatDoorLN00
import Derived.Maps.OwnSet
import Derived.Maps.Views
import Derived.DeepKeys4
import Derived.Laws.AppendOwn
import Derived.Laws.OwnMore
import Derived.Lib.AppendZeros
namespace Go.Proofs.YtcgihpfanfbonaaGreatDoor
open Go.RowKit Go.Maps
set_option linter.unusedVariables false
set_option linter.unusedSimpArgs false

theorem law_pair : Keyed Tryz.prog 99 :=
  Keyed.of_law (deep_law_laid Tryz.laidOut (m := 2) (by omega) (of_decide_eq_true (by kernel_rfl)) (by kernel_rfl) (by rw [Tryz.underlying99]))
theorem zero_unit (w : World) : (zeroValue 98).run Tryz.prog w = .ok (.agg #[]) w := by kernel_rfl
/-- What a pair of texts reads as, as a key. -/
def pk (a b : Txt) : Lit := .string (keyBytes [.string a.data.toList, .string b.data.toList])
theorem pk_key {a b : Txt} (ha : okTxt a) (hb : okTxt b) : keyOf Tryz.prog 99 (.agg #[.string a, .string b]) = some (pk a b) := by
  have hf : (Value.agg #[.string a, .string b]).formed Tryz.prog 99 = true := by
    have hc : Tryz.prog.cellsOf 99 = 2 := by kernel_rfl
    simp [Value.formed, Tryz.underlying99, hc]
  have hk : Tryz.prog.keyType 99 = true := by kernel_rfl
  have hc2 : Tryz.prog.cellsOf 99 = 2 := by kernel_rfl
  have hc1 : Tryz.prog.cellsOf 9 = 1 := by kernel_rfl
  have ha' : a.size ≤ maxLen := by unfold okTxt at ha; unfold maxLen; omega
  have hb' : b.size ≤ maxLen := by unfold okTxt at hb; unfold maxLen; omega
  have hz : ∃ m, Tryz.prog.types.size = m + 1 := ⟨Tryz.prog.types.size - 1, by have : 0 < Tryz.prog.types.size := of_decide_eq_true (by kernel_rfl); omega⟩
  obtain ⟨m, hm⟩ := hz
  have hl : Tryz.prog.keyLits (Tryz.prog.types.size + 1) 99 [.string a, .string b] = some [.string a.data.toList, .string b.data.toList] := by
    rw [hm]
    simp [Program.keyLits, Tryz.underlying99, Tryz.underlying9, hc2, hc1, List.range, List.range.loop, ha', hb']
  unfold keyOf
  rw [Tryz.underlying99]
  simp only [hk, hf, Bool.and_self, if_true, Value.cells, hl, Option.map_some, pk]
theorem pk_inj {a b c d : Txt} (ha : okTxt a) (hb : okTxt b) (hc : okTxt c) (hd : okTxt d) (h : pk a b = pk c d) : a = c ∧ b = d := by
  have h1 := pk_key ha hb
  have h2 := pk_key hc hd
  rw [← h] at h2
  have := law_pair.inj h1 h2
  simp at this
  exact this

/-- A set of pairs lies in a map. -/
def PairsAt (w : World) (r : Nat) (q : Txt → Txt → Bool) : Prop := ∃ n D, w.ownsMap Tryz.prog 99 (unitElem (H := Unit)) r n D ∧ n ≤ 1000 ∧ ∀ a b, okTxt a → okTxt b → Maps.has D (pk a b) = q a b
theorem PairsAt.lt {w : World} {r : Nat} {q : Txt → Txt → Bool} (h : PairsAt w r q) : r < w.heap.size := by
  obtain ⟨n, D, h, _⟩ := h
  exact h.lt
theorem PairsAt.below {w w' : World} {r : Nat} {q : Txt → Txt → Bool} (h : PairsAt w r q) (hb : Below w.heap.size w w') : PairsAt w' r q := by
  have hl := h.lt
  obtain ⟨n, D, ⟨es, cl, h1, h2⟩, h3⟩ := h
  exact ⟨n, D, ⟨es, cl, (hb.block r hl).trans h1, h2⟩, h3⟩

theorem PairsAt.setCell {w : World} {r : Nat} {q : Txt → Txt → Bool} (h : PairsAt w r q) {a : Addr} (ha : r ≠ a.block) (u : Value) : PairsAt (w.setCell a u) r q := by
  obtain ⟨n, D, h1, h3⟩ := h
  exact ⟨n, D, h1.setCell ha u, h3⟩

/-- A policy: who owns it, whom it lets read. -/
abbrev Pol := Txt × List Txt
abbrev Lab := List Pol
def pol : Enc Pol := Both txt (Sl txt 1)
theorem pol_stays : Stays pol := Both.stays (One.stays _) (Sl.stays (One.stays _) 1)
/-- `api.Label`. -/
abbrev Lbl (w : World) (l : Lab) (v : Value) : Prop := SliceOf pol 2 w l v
theorem Lbl.stays {w w' : World} (hk : Keeps w w') {l : Lab} {v : Value} (h : Lbl w l v) : Lbl w' l v := SliceOf.stays pol_stays hk h
def okPol : Pol → Prop := okBoth okTxt (okList okTxt)
abbrev okLab : Lab → Prop := okList okPol
def szPol : Pol → Nat := szBoth szTxt (szList szTxt)
theorem rdPol : Rd Tryz.prog 37 pol okPol szPol :=
  Rd.struct (tot := 2) Tryz.underlying37 (by kernel_rfl) (Rdf.cons (k := 1) (o' := 1) rfl rfl (by kernel_rfl) rfl (Rd.txt Tryz.underlying9) (Rdf.last (k := 1) rfl rfl (by kernel_rfl) rdStrs))
theorem rdLabel : Rd Tryz.prog 25 (Sl pol 2) okLab (szList szPol) := Rd.slice Tryz.underlying25 (by decide) (by kernel_rfl) rdPol
/-- A label's cells. -/
theorem Lbl.cells {w : World} {l : Lab} {v : Value} (h : Lbl w l v) :
    ∃ b o c p, v = .slice p l.length c ∧ l.length ≤ c ∧ c ≤ 9223372036854775807 ∧ (0 < l.length → p = some ⟨b, o, none⟩) ∧
      ∀ (i : Nat) (h : i < l.length), ∃ u, w.cell? ⟨b, o + i * 2, none⟩ = some (.string l[i].1) ∧ w.cell? ⟨b, o + i * 2 + 1, none⟩ = some u ∧ Strs w l[i].2 u := by
  obtain ⟨p, c, e, h1, h2, h3⟩ := h
  unfold maxLen at h2
  rcases h3 with rfl | ⟨b, o, hp, h3⟩
  · exact ⟨0, 0, c, p, e, h1, by omega, fun h => absurd h (by simp), fun i h => absurd h (by simp)⟩
  · refine ⟨b, o, c, p, e, h1, by omega, fun _ => hp, fun i hi => ?_⟩
    obtain ⟨vs, ⟨us, us', e1, e2, ⟨u, e3, e4⟩⟩, g2, g3⟩ := h3 i hi
    have e2' : us = [.string l[i].1] := e2
    subst e2' e3 e1
    exact ⟨u, by simpa using g3 0 _ rfl, by simpa using g3 1 _ rfl, e4⟩

def letsB (q : Txt → Txt → Bool) (p : Pol) (s : Txt) : Bool := q s p.1 || anyBy p.2 fun r => q s r
def coversB (q : Txt → Txt → Bool) (p x : Pol) : Bool := q p.1 x.1 && !anyBy p.2 fun r => !letsB q x r
def flowsB (q : Txt → Txt → Bool) (a b : Lab) : Bool := !anyBy a fun x => !anyBy b fun p => coversB q p x

section
variable (q : Txt → Txt → Bool) (vc : Value) (r : Nat)

theorem wacts_calls (a b : Txt) (w : World) (hp : PairsAt w r q) (ha : okTxt a) (hb : okTxt b) :
    Calls Tryz.prog 36 #[.agg #[vc, .map (some r)], .string a, .string b] w fun e w' => e = .returned (.bool (q a b)) ∧ Below w.heap.size w w' := by
  obtain ⟨n, D, hown, hn, hq⟩ := hp
  have hq' := hq a b ha hb
  have HQ := Lib.hid hq'
  clear hq hq'
  go_enter Tryz.func36, Tryz.ntmps36
  go_wp2_with (at_lookup; refine wpList_lookup_own_unit _ rfl _ _ 60 rfl 99 98 law_pair Tryz.underlying60 (zero_unit _) r n D rfl (hown.alloc _) _ _ rfl (pk_key ha hb) ?_)
  go_ret
  exact ⟨ret_bool HQ.out, ((Below.refl _ _).alloc (Nat.le_refl _) _).alloc (by simp) _⟩

theorem letsF_calls (s x : Txt) (g1 g2 : Nat) (w : World) (hp : PairsAt w r q) (hs : okTxt s) (hx : okTxt x)
    (h1 : w.cell? ⟨g1, 0, none⟩ = some vc) (h2 : w.cell? ⟨g1, 1, none⟩ = some (.map (some r))) (h3 : w.cell? ⟨g2, 0, none⟩ = some (.string s)) :
    Calls Tryz.prog 99 #[.string x, .pointer (some ⟨g1, 0, none⟩), .pointer (some ⟨g2, 0, none⟩)] w fun e w' => e = .returned (.bool (q s x)) ∧ Below w.heap.size w w' := by
  go_enter Tryz.func99, Tryz.ntmps99
  go_wp2_with (fail)
  refine (wacts_calls q vc r s x _ hp hs hx).mono ?_
  rintro e w1 ⟨rfl, hb⟩
  go_wp2
  go_ret
  exact ⟨rfl, hb⟩

theorem lets_calls (p : Pol) (s : Txt) (vr : Value) (w : World) (hp : PairsAt w r q) (hpo : okPol p) (hs : okTxt s) (hr : Strs w p.2 vr) :
    Calls Tryz.prog 71 #[.agg #[vc, .map (some r)], .agg #[.string p.1, vr], .string s] w fun e w' => e = .returned (.bool (letsB q p s)) ∧ Below w.heap.size w w' := by
  obtain ⟨o, rs⟩ := p
  have ho : okTxt o := hpo.1
  have hrs : ∀ x ∈ rs, okTxt x := hpo.2
  have hr0 := hr
  obtain ⟨b0, o0, c0, p0, rfl, hlc, hcm, hp', hcells⟩ := hr.cells
  obtain ⟨W3, eW⟩ : ∃ W3, ((w.alloc (.cells #[vc, .map (some r)] 62)).alloc (.cells #[.string o, .slice p0 rs.length c0] 37)).alloc (.cells #[.string s] 9) = W3 := ⟨_, rfl⟩
  obtain ⟨z3, hW, m1, m2, m3⟩ := boxes3 eW
  have HW := Lib.hid hW
  have HP := Lib.hid hp
  have HZ := Lib.hid z3
  have hc1 := m1 0
  have hc2 := m1 1
  have hc3 := m2 0
  have hc4 := m2 1
  have hc5 := m3 0
  simp only [List.getElem?_toArray, List.getElem?_cons_zero, List.getElem?_cons_succ] at hc1 hc2 hc3 hc4 hc5
  have HC1 := Lib.hid hc1
  have HC2 := Lib.hid hc2
  have HC5 := Lib.hid hc5
  clear m1 m2 m3 hW z3
  have eg : ∀ args w, (callFunc 99 args).run Tryz.prog w = .ok (.enter 99 args) w := enters_at Tryz.func99 (by kernel_rfl) rfl
  have HEG := Lib.hid eg
  clear hp hp' hcells hr eg
  have HL : Hid (letsB q (o, rs) s = (q s o || anyBy rs fun x => q s x)) := rfl
  cases hq : q s o with
  | true =>
    have HL2 : Hid (letsB q (o, rs) s = true) := by show letsB q (o, rs) s = true; rw [HL.out, hq]; rfl
    go_enter Tryz.func71, Tryz.ntmps71
    go_wp2_with (fail)
    refine (wacts_calls q vc r s o _ (HP.out.below HW.out) hs ho).mono ?_
    rintro e w1 ⟨rfl, hb⟩
    rw [hq]
    clear hq
    go_wp2
    go_ret
    exact ⟨ret_bool HL2.out.symm, HW.out.trans (hb.mono HW.out.size)⟩
  | false =>
    have HL2 : Hid (letsB q (o, rs) s = anyBy rs fun x => q s x) := by show letsB q (o, rs) s = _; rw [HL.out, hq]; rfl
    go_enter Tryz.func71, Tryz.ntmps71
    go_wp2_with (fail)
    refine (wacts_calls q vc r s o _ (HP.out.below HW.out) hs ho).mono ?_
    rintro e w1 ⟨rfl, hb⟩
    rw [hq]
    clear hq
    have hbw : Below w.heap.size w w1 := HW.out.trans (hb.mono HW.out.size)
    have HBW := Lib.hid hbw
    have HB := Lib.hid hb
    have hc4' : w1.cell? ⟨w.heap.size + 1, 1, none⟩ = some (.slice p0 rs.length c0) := (hb.cell (p := ⟨w.heap.size + 1, 1, none⟩) (by have := HZ.out; simp only; omega)).trans hc4
    clear hc4
    go_wp2_with (fail)
    refine (containsFunc_calls rs _ 99 #[.pointer (some ⟨w.heap.size, 0, none⟩), .pointer (some ⟨w.heap.size + 1 + 1, 0, none⟩)] (fun x => q s x) _ (hr0.stays (keeps_of_below HBW.out)) HEG.out ?_).mono ?_
    · intro x hx w2 hb2
      have hb2' : Below W3.heap.size W3 w2 := HB.out.trans (hb2.mono HB.out.size)
      have hz := HZ.out
      exact letsF_calls q vc r s x w.heap.size (w.heap.size + 1 + 1) w2 (HP.out.below (HBW.out.trans (hb2.mono HBW.out.size))) hs (hrs x hx)
        ((hb2'.cell (p := ⟨w.heap.size, 0, none⟩) (by simp only; omega)).trans HC1.out) ((hb2'.cell (p := ⟨w.heap.size, 1, none⟩) (by simp only; omega)).trans HC2.out) ((hb2'.cell (p := ⟨w.heap.size + 1 + 1, 0, none⟩) (by simp only; omega)).trans HC5.out)
    · rintro e w2 ⟨rfl, hb2⟩
      go_wp2
      go_ret
      exact ⟨ret_bool HL2.out.symm, HBW.out.trans (hb2.mono HBW.out.size)⟩

theorem coversF_calls (x : Pol) (t : Txt) (vx : Value) (g1 g2 : Nat) (w : World) (hp : PairsAt w r q) (hx : okPol x) (ht : okTxt t) (hr : Strs w x.2 vx)
    (h1 : w.cell? ⟨g1, 0, none⟩ = some vc) (h2 : w.cell? ⟨g1, 1, none⟩ = some (.map (some r))) (h3 : w.cell? ⟨g2, 0, none⟩ = some (.string x.1)) (h4 : w.cell? ⟨g2, 1, none⟩ = some vx) :
    Calls Tryz.prog 95 #[.string t, .pointer (some ⟨g1, 0, none⟩), .pointer (some ⟨g2, 0, none⟩)] w fun e w' => e = .returned (.bool (!letsB q x t)) ∧ Below w.heap.size w w' := by
  go_enter Tryz.func95, Tryz.ntmps95
  go_wp2_with (fail)
  refine (lets_calls q vc r x t vx _ hp hx ht hr).mono ?_
  rintro e w1 ⟨rfl, hb⟩
  go_wp2
  go_ret
  exact ⟨rfl, hb⟩

theorem covers_calls (p x : Pol) (vp vx : Value) (w : World) (hp : PairsAt w r q) (hpo : okPol p) (hxo : okPol x) (hr : Strs w p.2 vp) (hs : Strs w x.2 vx) :
    Calls Tryz.prog 66 #[.agg #[vc, .map (some r)], .agg #[.string p.1, vp], .agg #[.string x.1, vx]] w fun e w' => e = .returned (.bool (coversB q p x)) ∧ Below w.heap.size w w' := by
  obtain ⟨o, rs⟩ := p
  obtain ⟨ox, rx⟩ := x
  have ho : okTxt o := hpo.1
  have hox : okTxt ox := hxo.1
  have hrs : ∀ x ∈ rs, okTxt x := hpo.2
  have hr0 := hr
  have hs0 := hs
  obtain ⟨b0, o0, c0, p0, rfl, hlc, hcm, hp', hcells⟩ := hr.cells
  obtain ⟨b1, o1, c1, p1, rfl, hlc1, hcm1, hp1', hcells1⟩ := hs.cells
  obtain ⟨W3, eW⟩ : ∃ W3, ((w.alloc (.cells #[vc, .map (some r)] 62)).alloc (.cells #[.string o, .slice p0 rs.length c0] 37)).alloc (.cells #[.string ox, .slice p1 rx.length c1] 37) = W3 := ⟨_, rfl⟩
  obtain ⟨z3, hW, m1, m2, m3⟩ := boxes3 eW
  have HW := Lib.hid hW
  have HP := Lib.hid hp
  have HZ := Lib.hid z3
  have hc1 := m1 0
  have hc2 := m1 1
  have hc3 := m2 0
  have hc4 := m2 1
  have hc5 := m3 0
  have hc6 := m3 1
  simp only [List.getElem?_toArray, List.getElem?_cons_zero, List.getElem?_cons_succ] at hc1 hc2 hc3 hc4 hc5 hc6
  have HC1 := Lib.hid hc1
  have HC2 := Lib.hid hc2
  have HC5 := Lib.hid hc5
  have HC6 := Lib.hid hc6
  clear m1 m2 m3 hW z3
  have eg : ∀ args w, (callFunc 95 args).run Tryz.prog w = .ok (.enter 95 args) w := enters_at Tryz.func95 (by kernel_rfl) rfl
  have HEG := Lib.hid eg
  clear hp hp' hcells hr eg hs hp1' hcells1
  have HL : Hid (coversB q (o, rs) (ox, rx) = (q o ox && !anyBy rs fun t => !letsB q (ox, rx) t)) := rfl
  cases hq : q o ox with
  | false =>
    have HL2 : Hid (coversB q (o, rs) (ox, rx) = false) := by show coversB q (o, rs) (ox, rx) = false; rw [HL.out, hq]; rfl
    go_enter Tryz.func66, Tryz.ntmps66
    go_wp2_with (fail)
    refine (wacts_calls q vc r o ox _ (HP.out.below HW.out) ho hox).mono ?_
    rintro e w1 ⟨rfl, hb⟩
    rw [hq]
    clear hq
    go_wp2
    go_ret
    exact ⟨ret_bool HL2.out.symm, HW.out.trans (hb.mono HW.out.size)⟩
  | true =>
    have HL2 : Hid (coversB q (o, rs) (ox, rx) = !anyBy rs fun t => !letsB q (ox, rx) t) := by show coversB q (o, rs) (ox, rx) = _; rw [HL.out, hq]; rfl
    go_enter Tryz.func66, Tryz.ntmps66
    go_wp2_with (fail)
    refine (wacts_calls q vc r o ox _ (HP.out.below HW.out) ho hox).mono ?_
    rintro e w1 ⟨rfl, hb⟩
    rw [hq]
    clear hq
    have hbw : Below w.heap.size w w1 := HW.out.trans (hb.mono HW.out.size)
    have HBW := Lib.hid hbw
    have HB := Lib.hid hb
    have hc4' : w1.cell? ⟨w.heap.size + 1, 1, none⟩ = some (.slice p0 rs.length c0) := (hb.cell (p := ⟨w.heap.size + 1, 1, none⟩) (by have := HZ.out; simp only; omega)).trans hc4
    clear hc4
    go_wp2_with (fail)
    refine (containsFunc_calls rs _ 95 #[.pointer (some ⟨w.heap.size, 0, none⟩), .pointer (some ⟨w.heap.size + 1 + 1, 0, none⟩)] (fun t => !letsB q (ox, rx) t) _ (hr0.stays (keeps_of_below HBW.out)) HEG.out ?_).mono ?_
    · intro t ht w2 hb2
      have hb2' : Below W3.heap.size W3 w2 := HB.out.trans (hb2.mono HB.out.size)
      have hbw2 : Below w.heap.size w w2 := HBW.out.trans (hb2.mono HBW.out.size)
      have hz := HZ.out
      exact coversF_calls q vc r (ox, rx) t _ w.heap.size (w.heap.size + 1 + 1) w2 (HP.out.below hbw2) hxo (hrs t ht) (hs0.stays (keeps_of_below hbw2))
        ((hb2'.cell (p := ⟨w.heap.size, 0, none⟩) (by simp only; omega)).trans HC1.out) ((hb2'.cell (p := ⟨w.heap.size, 1, none⟩) (by simp only; omega)).trans HC2.out)
        ((hb2'.cell (p := ⟨w.heap.size + 1 + 1, 0, none⟩) (by simp only; omega)).trans HC5.out) ((hb2'.cell (p := ⟨w.heap.size + 1 + 1, 1, none⟩) (by simp only; omega)).trans HC6.out)
    · rintro e w2 ⟨rfl, hb2⟩
      go_wp2
      go_ret
      exact ⟨ret_bool HL2.out.symm, HBW.out.trans (hb2.mono HBW.out.size)⟩

/-- A function value that tells `f` of each policy of a label, whatever is made in between. -/
def TellsPol (W : World) (l : Lab) (fn : FuncId) (cap : Array Value) (f : Pol → Bool) : Prop :=
  ∀ (x : Pol), x ∈ l → ∀ (vr : Value) (w : World), Below W.heap.size W w → Strs w x.2 vr → Calls Tryz.prog fn (#[.agg #[.string x.1, vr]] ++ cap) w fun e w' => e = .returned (.bool (f x)) ∧ Below w.heap.size w w'

theorem indexPol_calls (l : Lab) (v : Value) (fn : FuncId) (cap : Array Value) (f : Pol → Bool) (w : World) (h : Lbl w l v) (eg : ∀ args w, (callFunc fn args).run Tryz.prog w = .ok (.enter fn args) w) (hq : TellsPol w l fn cap f) :
    Calls Tryz.prog 67 #[v, .func (.func fn) #[] cap] w fun e w' => e = .returned (.int .i64 (idxBy l f)) ∧ Below w.heap.size w w' := by
  obtain ⟨b, o, c, p, rfl, hlc, hc, hp, hcells⟩ := h.cells
  go_enter Tryz.func67, Tryz.ntmps67
  go_wp2
  go_loopw [5, 8] (fun _ i wr => ∃ k : Nat, k ≤ l.length ∧ i = .int .i64 k ∧ Below w.heap.size w wr ∧ ∀ j (hj : j < l.length), j < k → f l[j] = false) (fun _ i _ => l.length - (intOf i).toNat)
  case atStart => exact ⟨0, Nat.zero_le _, rfl, Below.refl _ _, fun j _ hj => absurd hj (Nat.not_lt_zero _)⟩
  case round =>
    obtain ⟨k, hk, rfl, hb, hne⟩ := hrel
    by_cases hlt : k < l.length
    · obtain ⟨u, hca, hcb, hu⟩ := hcells k hlt
      have hcell1 : wr.cell? ⟨b, o + k * 2, none⟩ = some (.string l[k].1) := (hb.cell (cell_lt hca)).trans hca
      have hcell2 : wr.cell? ⟨b, o + k * 2 + 1, none⟩ = some u := (hb.cell (cell_lt hcb)).trans hcb
      obtain rfl := hp (by omega)
      have HN := Lib.hid hne
      clear hp hcells hca hcb hne
      have HQ := hq l[k] (List.getElem_mem hlt) u wr hb (hu.stays (keeps_of_below hb))
      clear hq hu
      cases hx : f l[k] with
      | true =>
        rw [hx] at HQ
        have HX := Lib.hid hx
        clear hx
        go_wp2_with (fail)
        refine HQ.mono ?_
        rintro e w1 ⟨rfl, hb1⟩
        go_wp2
        go_ret
        exact ⟨ret_int (idxBy_hit hlt HX.out HN.out).symm, hb.trans (hb1.mono hb.size)⟩
      | false =>
        rw [hx] at HQ
        have HX := Lib.hid hx
        clear hx
        go_wp2_with (fail)
        refine HQ.mono ?_
        rintro e w1 ⟨rfl, hb1⟩
        go_wp2
        go_roundw
        case rel =>
          refine ⟨k + 1, by omega, by go_num, hb.trans (hb1.mono hb.size), fun j hj hj' => ?_⟩
          by_cases e : j = k
          · subst e; exact HX.out
          · exact HN.out j hj (by omega)
        case measure => simp [intOf]; omega
    · go_wp2
      go_ret
      exact ⟨ret_int (idxBy_miss (fun j hj => hne j hj (by omega))).symm, hb⟩
theorem containsPol_calls (l : Lab) (v : Value) (fn : FuncId) (cap : Array Value) (f : Pol → Bool) (w : World) (h : Lbl w l v)
    (eg : ∀ args w, (callFunc fn args).run Tryz.prog w = .ok (.enter fn args) w) (hq : TellsPol w l fn cap f) :
    Calls Tryz.prog 69 #[v, .func (.func fn) #[] cap] w fun e w' => e = .returned (.bool (anyBy l f)) ∧ Below w.heap.size w w' := by
  rw [← idxBy_any]
  go_enter Tryz.func69, Tryz.ntmps69
  go_wp2_with (go_at_call 67; refine (indexPol_calls l _ fn cap f _ h eg hq).mono ?_; rintro e w' ⟨rfl, hb⟩)
  go_ret
  exact ⟨rfl, hb⟩
end
end Go.Proofs.YtcgihpfanfbonaaGreatDoor
namespace Go.Proofs.YtcgihpfanfbonaaGreatDoor
open Go.RowKit
set_option linter.unusedVariables false
set_option linter.unusedSimpArgs false

/-- Data one behind the other, each of `k` cells. -/
def Rows {α : Type} (E : Enc α) (k : Nat) (w : World) : List α → List Value → Prop
  | [], vs => vs = []
  | x :: l, vs => ∃ us us', vs = us ++ us' ∧ E w x us ∧ us.length = k ∧ Rows E k w l us'
/-- What holds a datum are plain cells. -/
def Plain {α : Type} (E : Enc α) : Prop := ∀ w x vs, E w x vs → ∀ u ∈ vs, u.oneCell' = true

section
variable {α β : Type} {E : Enc α} {F : Enc β} {k : Nat} {w w' : World}
theorem Rows.length : ∀ {l : List α} {vs : List Value}, Rows E k w l vs → vs.length = l.length * k
  | [], _, h => by have h' : _ = [] := h; subst h'; simp
  | x :: l, vs, h => by
    obtain ⟨us, us', rfl, _, h1, h2⟩ := h
    have := Rows.length h2
    simp [this, h1, Nat.add_mul, Nat.add_comm]
theorem Rows.append : ∀ {l m : List α} {vs us : List Value}, Rows E k w l vs → Rows E k w m us → Rows E k w (l ++ m) (vs ++ us)
  | [], m, vs, us, h, h' => by have e : vs = [] := h; subst e; simpa using h'
  | x :: l, m, vs, us, h, h' => by
    obtain ⟨a, b, rfl, h1, h2, h3⟩ := h
    exact ⟨a, b ++ us, by rw [List.append_assoc], h1, h2, Rows.append h3 h'⟩
theorem Rows.one {x : α} {vs : List Value} (h : E w x vs) (hk : vs.length = k) : Rows E k w [x] vs := ⟨vs, [], by simp, h, hk, rfl⟩
theorem Rows.stays (hE : Stays E) (hk : Keeps w w') : ∀ {l : List α} {vs : List Value}, Rows E k w l vs → Rows E k w' l vs
  | [], _, h => h
  | x :: l, vs, h => by
    obtain ⟨a, b, rfl, h1, h2, h3⟩ := h
    exact ⟨a, b, rfl, hE _ _ _ _ hk h1, h2, Rows.stays hE hk h3⟩
theorem Rows.at : ∀ {l : List α} {vs : List Value}, Rows E k w l vs → ∀ i (hi : i < l.length), ∃ us, E w l[i] us ∧ us.length = k ∧ ∀ j x, us[j]? = some x → vs[i * k + j]? = some x
  | [], _, _, i, hi => absurd hi (by simp)
  | x :: l, vs, h, 0, _ => by
    obtain ⟨a, b, rfl, h1, h2, h3⟩ := h
    refine ⟨a, h1, h2, fun j y hy => ?_⟩
    have := (List.getElem?_eq_some_iff.1 hy).1
    rw [Nat.zero_mul, Nat.zero_add, List.getElem?_append_left this]
    exact hy
  | x :: l, vs, h, i + 1, hi => by
    obtain ⟨a, b, rfl, h1, h2, h3⟩ := h
    obtain ⟨us, g1, g2, g3⟩ := Rows.at h3 i (by simpa using hi)
    refine ⟨us, g1, g2, fun j y hy => ?_⟩
    rw [List.getElem?_append_right (by rw [h2, Nat.add_mul]; omega), h2, show (i + 1) * k + j - k = i * k + j by rw [Nat.add_mul]; omega]
    exact g3 j y hy
theorem Rows.plain (hE : Plain E) : ∀ {l : List α} {vs : List Value}, Rows E k w l vs → ∀ u ∈ vs, u.oneCell' = true
  | [], _, h => by have e : _ = [] := h; subst e; intro u hu; cases hu
  | x :: l, vs, h => by
    obtain ⟨a, b, rfl, h1, h2, h3⟩ := h
    intro u hu
    rcases List.mem_append.1 hu with hu | hu
    · exact hE _ _ _ h1 u hu
    · exact Rows.plain hE h3 u hu
theorem Rows.of_at (hk : 0 < k) : ∀ (l : List α) (vs : List Value), vs.length = l.length * k → (∀ i (hi : i < l.length), ∃ us, E w l[i] us ∧ us.length = k ∧ ∀ j x, us[j]? = some x → vs[i * k + j]? = some x) → Rows E k w l vs
  | [], vs, h, _ => List.eq_nil_of_length_eq_zero (by simpa using h)
  | x :: l, vs, h, hi => by
    obtain ⟨us, g1, g2, g3⟩ := hi 0 (by simp)
    have hl : k ≤ vs.length := by rw [h]; simp [Nat.add_mul]
    have e : us = vs.take k := by
      apply List.ext_getElem
      · simp; omega
      · intro j h1 h2
        have := g3 j us[j] (List.getElem?_eq_getElem h1)
        rw [Nat.zero_mul, Nat.zero_add] at this
        have h3 := (List.getElem?_eq_some_iff.1 this).2
        simp [h3]
    refine ⟨us, vs.drop k, by rw [e, List.take_append_drop], g1, g2, Rows.of_at hk l _ (by simp [h, Nat.add_mul]) fun i hi' => ?_⟩
    obtain ⟨us', f1, f2, f3⟩ := hi (i + 1) (by simpa using hi')
    refine ⟨us', by simpa using f1, f2, fun j y hy => ?_⟩
    rw [List.getElem?_drop, show k + (i * k + j) = (i + 1) * k + j by rw [Nat.add_mul]; omega]
    exact f3 j y hy

theorem One.plain {f : α → Value} (h : ∀ x, (f x).oneCell' = true) : Plain (One f) := fun w x vs e u hu => by
  have e' : vs = [f x] := e
  subst e'
  simp at hu
  subst hu
  exact h x
theorem txt_plain : Plain txt := One.plain fun _ => rfl
theorem num_plain : Plain num := One.plain fun _ => rfl
theorem Sl.plain {j : Nat} : Plain (Sl E j) := fun w x vs e u hu => by
  obtain ⟨v, rfl, p, c, rfl, _⟩ := e
  simp at hu
  subst hu
  rfl
theorem Both.plain (hE : Plain E) (hF : Plain F) : Plain (Both E F) := fun w x vs e u hu => by
  obtain ⟨a, b, rfl, h1, h2⟩ := e
  rcases List.mem_append.1 hu with hu | hu
  · exact hE _ _ _ h1 u hu
  · exact hF _ _ _ h2 u hu

/-- How a datum lies does not hang on the world. -/
def Free {α : Type} (E : Enc α) : Prop := ∀ w w' x vs, E w x vs → E w' x vs
theorem One.free (f : α → Value) : Free (One f) := fun _ _ _ _ h => h
theorem Both.free (hE : Free E) (hF : Free F) : Free (Both E F) := fun _ _ _ _ ⟨a, b, e, h1, h2⟩ => ⟨a, b, e, hE _ _ _ _ h1, hF _ _ _ _ h2⟩
theorem Rows.free (hE : Free E) : ∀ {l : List α} {vs : List Value}, Rows E k w l vs → Rows E k w' l vs
  | [], _, h => h
  | x :: l, vs, h => by
    obtain ⟨a, b, rfl, h1, h2, h3⟩ := h
    exact ⟨a, b, rfl, hE _ _ _ _ h1, h2, Rows.free hE h3⟩
theorem cell_keep (hk : Keeps w w') {ad : Addr} {u : Value} (h : w.cell? ad = some u) : w'.cell? ad = some u := by
  obtain ⟨b, o, sp⟩ := ad
  have hs : sp = none := by simpa using World.cell?_spot h
  subst hs
  rw [hk.2 b o (cell_lt h)]
  exact h

/-- A slice's cells, one behind the other. -/
theorem SliceOf.rows (hk : 0 < k) {l : List α} {v : Value} (h : SliceOf E k w l v) : ∃ p c vs, v = .slice p l.length c ∧ l.length ≤ c ∧ c ≤ 9223372036854775807 ∧ Rows E k w l vs ∧ (p = none → l.length = 0) ∧
    ∀ ad : Addr, p = some ad → ∀ (j : Nat) (u : Value), vs[j]? = some u → w.cell? (ad.add j) = some u := by
  obtain ⟨p, c, rfl, h1, h2, h3⟩ := h
  rcases h3 with rfl | ⟨b, o, rfl, h3⟩
  · exact ⟨p, c, [], rfl, h1, by unfold maxLen at h2; omega, rfl, fun _ => rfl, fun _ _ j u hu => by simp at hu⟩
  · have : ∀ (n : Nat), n ≤ l.length → ∃ vs : List Value, Rows E k w (l.take n) vs ∧ ∀ (j : Nat) (u : Value), vs[j]? = some u → w.cell? ⟨b, o + j, none⟩ = some u := by
      intro n
      induction n with
      | zero => exact fun _ => ⟨[], rfl, fun j u hu => by simp at hu⟩
      | succ n ih =>
        intro hn
        obtain ⟨vs, g1, g2⟩ := ih (by omega)
        obtain ⟨us, f1, f2, f3⟩ := h3 n (by omega)
        refine ⟨vs ++ us, by rw [List.take_succ_eq_append_getElem (by omega)]; exact g1.append (.one f1 f2), fun j u hu => ?_⟩
        have hl : vs.length = n * k := by rw [g1.length, List.length_take, Nat.min_eq_left (by omega)]
        by_cases hj : j < vs.length
        · rw [List.getElem?_append_left hj] at hu
          exact g2 j u hu
        · rw [List.getElem?_append_right (by omega), hl] at hu
          have := f3 _ _ hu
          rw [show o + n * k + (j - n * k) = o + j by omega] at this
          exact this
    obtain ⟨vs, g1, g2⟩ := this l.length (Nat.le_refl _)
    rw [List.take_length] at g1
    refine ⟨_, c, vs, rfl, h1, by unfold maxLen at h2; omega, g1, fun e => by simp at e, fun ad e j u hu => ?_⟩
    simp only [Option.some.injEq] at e
    subst e
    rw [Go.WideShapes.add_plain]
    exact g2 j u hu
/-- What a call owns, as data. -/
theorem SliceOf.of_rows {l : List α} {base : Nat} {e : TypeId} {v : Value} {xs : List Value} (h : w.ownsRow base e k v l.length xs) (hr : Rows E k w l xs) : SliceOf E k w l v := by
  obtain ⟨hl, h⟩ := h
  rcases h with ⟨rfl, hn⟩ | ⟨g, cap, cur, rfl, _, hh, h1, h2, h3, h4⟩
  · exact ⟨none, 0, by rw [hn], by omega, by unfold maxLen; omega, Or.inl (List.length_eq_zero_iff.1 hn)⟩
  · refine ⟨_, cap, rfl, h1, h2, Or.inr ⟨g, 0, rfl, fun i hi => ?_⟩⟩
    obtain ⟨vs, e1, e2, e3⟩ := hr.at i hi
    refine ⟨vs, e1, e2, fun j x hx => ?_⟩
    have := e3 j x hx
    rw [← h4, List.getElem?_take] at this
    split at this
    · simpa [World.cell?, hh] using this
    · cases this
end

theorem own_below {w w' : World} {base : Nat} {e : TypeId} {size : Nat} {v : Value} {n : Nat} {xs : List Value} (h : w.ownsRow base e size v n xs) (hb : Below w.heap.size w w') : w'.ownsRow base e size v n xs :=
  h.kept (row := none) ⟨hb.os, hb.tape, hb.output, hb.size, fun q hq _ => hb.block q hq⟩ (by
    cases h : v.ownBlock with
    | none => exact .inl rfl
    | some g => exact .inr (by simp))
section
variable {P : Program} (w : World)
theorem run_append_nilsrc (base : Nat) (t ty e : TypeId) (i : TypeInfo) (size : Nat) (ht : P.underlying t = some (.slice e)) (hi : P.info? e = some i)
    (v : Value) (n : Nat) (xs : List Value) (hown : w.ownsRow base e size v n xs) (c : Nat) : (Builtin.append_ #[t, t] ty #[v, .slice none 0 c]).run P w = .ok v w := by
  rcases hown.2 with ⟨rfl, rfl⟩ | ⟨g, cap, cur, rfl, _, _, hnc, _⟩
  · simp [Builtin.append_, run_underlying ht, sizeOf, typeInfo, hi, Builtin.lenOf, Builtin.firstCells]
  · simp [Builtin.append_, run_underlying ht, sizeOf, typeInfo, hi, Builtin.lenOf, Builtin.firstCells, hnc, storeCells]
/-- append onto a row of the call's own, of a slice that is nil or not. -/
theorem wpList_append_src {ops : Array Oper} {rest : List Oper} {o : Oper} {a : Act} {Q : Exit → Act → World → Prop} (hgd : o.guard = none) (s x : Operand) (t : TypeId)
    (ho : o.op = .call { callee := .builtin .append, args := #[s, x], argTypes := #[t, t] })
    (base : Nat) (e : TypeId) (i : TypeInfo) (z : Value) (size bytes : Nat) (ht : P.underlying t = some (.slice e)) (hi : P.info? e = some i) (hz : i.zero = some z)
    (hsize : i.size = size) (hby : i.bytes = bytes) (hzs : z.cells.size = size) (hsz : 0 < size)
    (v : Value) (n : Nat) (xs : List Value) (hs : a.eval s = v) (hown : w.ownsRow base e size v n xs)
    (p : Option Addr) (m c : Nat) (news : List Value) (hx : a.eval x = .slice p m c) (hl : news.length = m * size) (hp : p = none → m = 0)
    (hnews : ∀ ad : Addr, p = some ad → ∀ (j : Nat) (u : Value), news[j]? = some u → w.cell? (ad.add j) = some u) (h1 : ∀ u ∈ news, u.oneCell' = true)
    (h63 : n + m ≤ maxLen) (hbytes : (n + m) * bytes ≤ 140737488355328) (hbase : base ≤ w.heap.size)
    (h : ∀ v' w', w'.ownsRow base e size v' (n + m) (xs ++ news) → w.grownBy w' v.ownBlock → wpList P ops Q rest (a.put o.dst v') w') : wpList P ops Q (o :: rest) a w := by
  rcases p with _ | ad
  · have hm := hp rfl
    subst hm
    have hn : news = [] := List.eq_nil_of_length_eq_zero (by simpa using hl)
    subst hn
    refine Lib.wpList_append_run w hgd s x t t ho v (.slice none 0 c) hs hx v w (run_append_nilsrc w base t o.type e i size ht hi v n xs hown c) ?_
    exact h v w (by simpa using hown) (World.grownBy.refl w _)
  · exact wpList_append_own w hgd s x t ho base e i z size bytes ht hi hz hsize hby hzs hsz v n xs hs hown ad m c news hx hl (hnews ad rfl) h1 h63 hbytes hbase fun v' w' h2 h3 _ => h v' w' h2 h3
end
end Go.Proofs.YtcgihpfanfbonaaGreatDoor
namespace Go.Proofs.YtcgihpfanfbonaaGreatDoor
open Go.RowKit Go.Maps
set_option linter.unusedVariables false
set_option linter.unusedSimpArgs false

section
variable (q : Txt → Txt → Bool) (vc : Value) (r : Nat)

/-- One policy covers another one: the inner function. -/
theorem flowsG_calls (p x : Pol) (vp vx : Value) (g1 g2 : Nat) (w : World) (hp : PairsAt w r q) (hpo : okPol p) (hxo : okPol x) (hr : Strs w p.2 vp) (hs : Strs w x.2 vx)
    (h1 : w.cell? ⟨g1, 0, none⟩ = some vc) (h2 : w.cell? ⟨g1, 1, none⟩ = some (.map (some r))) (h3 : w.cell? ⟨g2, 0, none⟩ = some (.string x.1)) (h4 : w.cell? ⟨g2, 1, none⟩ = some vx) :
    Calls Tryz.prog 101 #[.agg #[.string p.1, vp], .pointer (some ⟨g1, 0, none⟩), .pointer (some ⟨g2, 0, none⟩)] w fun e w' => e = .returned (.bool (coversB q p x)) ∧ Below w.heap.size w w' := by
  obtain ⟨o, rs⟩ := p
  have l1 := cell_lt h1
  have l3 := cell_lt h3
  obtain ⟨W1, eW⟩ : ∃ W1, w.alloc (.cells #[.string o, vp] 37) = W1 := ⟨_, rfl⟩
  obtain ⟨z1, hW, m1⟩ := boxes1 eW
  have HW := Lib.hid hW
  have HP := Lib.hid hp
  have hc1 := m1 0
  have hc2 := m1 1
  simp only [List.getElem?_toArray, List.getElem?_cons_zero, List.getElem?_cons_succ] at hc1 hc2
  have k1 : W1.cell? ⟨g1, 0, none⟩ = some vc := (hW.cell l1).trans h1
  have k2 : W1.cell? ⟨g1, 1, none⟩ = some (.map (some r)) := (hW.cell (p := ⟨g1, 1, none⟩) l1).trans h2
  have k3 : W1.cell? ⟨g2, 0, none⟩ = some (.string x.1) := (hW.cell l3).trans h3
  have k4 : W1.cell? ⟨g2, 1, none⟩ = some vx := (hW.cell (p := ⟨g2, 1, none⟩) l3).trans h4
  clear m1 hW z1 hp h1 h2 h3 h4
  go_enter Tryz.func101, Tryz.ntmps101
  go_wp2_with (fail)
  refine (covers_calls q vc r (o, rs) x vp vx _ (HP.out.below HW.out) hpo hxo (hr.stays (keeps_of_below HW.out)) (hs.stays (keeps_of_below HW.out))).mono ?_
  rintro e w1 ⟨rfl, hb⟩
  go_wp2
  go_ret
  exact ⟨rfl, HW.out.trans (hb.mono HW.out.size)⟩

/-- Is there none that covers a policy? The outer function. -/
theorem flowsF_calls (x : Pol) (m : Lab) (vx vm : Value) (g1 g2 : Nat) (w : World) (hp : PairsAt w r q) (hmo : okLab m) (hxo : okPol x) (hs : Strs w x.2 vx) (hm : Lbl w m vm)
    (h1 : w.cell? ⟨g1, 0, none⟩ = some vc) (h2 : w.cell? ⟨g1, 1, none⟩ = some (.map (some r))) (h3 : w.cell? ⟨g2, 0, none⟩ = some vm) :
    Calls Tryz.prog 100 #[.agg #[.string x.1, vx], .pointer (some ⟨g2, 0, none⟩), .pointer (some ⟨g1, 0, none⟩)] w fun e w' => e = .returned (.bool (!anyBy m fun p => coversB q p x)) ∧ Below w.heap.size w w' := by
  obtain ⟨ox, rx⟩ := x
  have l1 := cell_lt h1
  have l3 := cell_lt h3
  obtain ⟨bm, om, cm, pm, rfl, hlm, hcm, hpm, hcellsm⟩ := hm.cells
  clear hpm hcellsm
  obtain ⟨W1, eW⟩ : ∃ W1, w.alloc (.cells #[.string ox, vx] 37) = W1 := ⟨_, rfl⟩
  obtain ⟨z1, hW, m1⟩ := boxes1 eW
  have HW := Lib.hid hW
  have HP := Lib.hid hp
  have HZ := Lib.hid z1
  have hc1 := m1 0
  have hc2 := m1 1
  simp only [List.getElem?_toArray, List.getElem?_cons_zero, List.getElem?_cons_succ] at hc1 hc2
  have k1 : W1.cell? ⟨g1, 0, none⟩ = some vc := (hW.cell l1).trans h1
  have k2 : W1.cell? ⟨g1, 1, none⟩ = some (.map (some r)) := (hW.cell (p := ⟨g1, 1, none⟩) l1).trans h2
  have k3 : W1.cell? ⟨g2, 0, none⟩ = some (.slice pm m.length cm) := (hW.cell l3).trans h3
  have HC1 := Lib.hid hc1
  have HC2 := Lib.hid hc2
  have HK1 := Lib.hid k1
  have HK2 := Lib.hid k2
  have l1' : g1 < W1.heap.size := cell_lt k1
  have eg : ∀ args w, (callFunc 101 args).run Tryz.prog w = .ok (.enter 101 args) w := enters_at Tryz.func101 (by kernel_rfl) rfl
  have HEG := Lib.hid eg
  clear m1 hW z1 hp h1 h2 h3 eg hc1 hc2 k1 k2
  go_enter Tryz.func100, Tryz.ntmps100
  go_wp2_with (fail)
  refine (containsPol_calls m _ 101 #[.pointer (some ⟨g1, 0, none⟩), .pointer (some ⟨w.heap.size, 0, none⟩)] (fun p => coversB q p (ox, rx)) _ (hm.stays (keeps_of_below HW.out)) HEG.out ?_).mono ?_
  · intro p hp vp w2 hb2 hr
    have hz := HZ.out
    exact flowsG_calls q vc r p (ox, rx) vp vx g1 w.heap.size w2 (HP.out.below (HW.out.trans (hb2.mono HW.out.size))) (hmo p hp) hxo hr (hs.stays (keeps_of_below (HW.out.trans (hb2.mono HW.out.size))))
      ((hb2.cell (p := ⟨g1, 0, none⟩) l1').trans HK1.out) ((hb2.cell (p := ⟨g1, 1, none⟩) l1').trans HK2.out) ((hb2.cell (p := ⟨w.heap.size, 0, none⟩) (by simp only; omega)).trans HC1.out) ((hb2.cell (p := ⟨w.heap.size, 1, none⟩) (by simp only; omega)).trans HC2.out)
  · rintro e w2 ⟨rfl, hb2⟩
    go_wp2
    go_ret
    exact ⟨rfl, HW.out.trans (hb2.mono HW.out.size)⟩

theorem wflows_calls (l m : Lab) (vl vm : Value) (w : World) (hp : PairsAt w r q) (hlo : okLab l) (hmo : okLab m) (hl : Lbl w l vl) (hm : Lbl w m vm) :
    Calls Tryz.prog 72 #[.agg #[vc, .map (some r)], vl, vm] w fun e w' => e = .returned (.bool (flowsB q l m)) ∧ Below w.heap.size w w' := by
  obtain ⟨bl, ol, cl, pl, rfl, hll, hcl, hpl, hcellsl⟩ := hl.cells
  obtain ⟨bm, om, cm, pm, rfl, hlm, hcm, hpm, hcellsm⟩ := hm.cells
  clear hpm hcellsm hpl hcellsl
  obtain ⟨W3, eW⟩ : ∃ W3, (w.alloc (.cells #[vc, .map (some r)] 62)).alloc (.cells #[.slice pm m.length cm] 25) = W3 := ⟨_, rfl⟩
  obtain ⟨z3, hW, m1, m2⟩ := boxes2 eW
  have HW := Lib.hid hW
  have HP := Lib.hid hp
  have HZ := Lib.hid z3
  have hc1 := m1 0
  have hc2 := m1 1
  have hc3 := m2 0
  simp only [List.getElem?_toArray, List.getElem?_cons_zero, List.getElem?_cons_succ] at hc1 hc2 hc3
  have HC1 := Lib.hid hc1
  have HC2 := Lib.hid hc2
  have HC3 := Lib.hid hc3
  have eg : ∀ args w, (callFunc 100 args).run Tryz.prog w = .ok (.enter 100 args) w := enters_at Tryz.func100 (by kernel_rfl) rfl
  have HEG := Lib.hid eg
  clear m1 m2 hW z3 hp eg
  go_enter Tryz.func72, Tryz.ntmps72
  go_wp2_with (fail)
  refine (containsPol_calls l _ 100 #[.pointer (some ⟨w.heap.size + 1, 0, none⟩), .pointer (some ⟨w.heap.size, 0, none⟩)] (fun x => !anyBy m fun p => coversB q p x) _ (hl.stays (keeps_of_below HW.out)) HEG.out ?_).mono ?_
  · intro x hx vx w2 hb2 hs
    have hz := HZ.out
    have hbw := HW.out.trans (hb2.mono HW.out.size)
    exact flowsF_calls q vc r x m vx _ w.heap.size (w.heap.size + 1) w2 (HP.out.below hbw) hmo (hlo x hx) hs (hm.stays (keeps_of_below hbw))
      ((hb2.cell (p := ⟨w.heap.size, 0, none⟩) (by simp only; omega)).trans HC1.out) ((hb2.cell (p := ⟨w.heap.size, 1, none⟩) (by simp only; omega)).trans HC2.out) ((hb2.cell (p := ⟨w.heap.size + 1, 0, none⟩) (by simp only; omega)).trans HC3.out)
  · rintro e w2 ⟨rfl, hb2⟩
    go_wp2
    go_ret
    exact ⟨rfl, HW.out.trans (hb2.mono HW.out.size)⟩
end

/-- What is wrong with a policy, of these chiefs. -/
def polErr (l : List Txt) (p : Pol) : Int := if 6 < p.2.length then 2 else if (p.1 :: p.2).all (has l) then 0 else 5
/-- What is wrong with a label, of these chiefs. -/
def labErr (l : List Txt) (x : Lab) : Int := if 200 < x.length then 2 else (x.find? fun p => polErr l p != 0).elim 0 (polErr l)
theorem labErr_at {l : List Txt} {x : Lab} (h0 : x.length ≤ 200) {k : Nat} (hk : k < x.length) (h : polErr l x[k] ≠ 0) (hne : ∀ j (hj : j < x.length), j < k → polErr l x[j] = 0) : labErr l x = polErr l x[k] := by
  unfold labErr
  rw [if_neg (by omega)]
  have : x.find? (fun p => polErr l p != 0) = some x[k] := by
    rw [List.find?_eq_some_iff_getElem]
    exact ⟨by simpa using h, k, hk, rfl, fun j hj => by simp [hne j (by omega) hj]⟩
  rw [this]; rfl
theorem labErr_none {l : List Txt} {x : Lab} (h0 : x.length ≤ 200) (hne : ∀ j (hj : j < x.length), polErr l x[j] = 0) : labErr l x = 0 := by
  unfold labErr
  rw [if_neg (by omega)]
  have : x.find? (fun p => polErr l p != 0) = none := by
    rw [List.find?_eq_none]
    intro p hp
    obtain ⟨j, hj, rfl⟩ := List.getElem_of_mem hp
    simp [hne j hj]
  rw [this]; rfl
theorem labErr_zero {l : List Txt} {x : Lab} (h : labErr l x = 0) : x.length ≤ 200 ∧ ∀ p ∈ x, p.2.length ≤ 6 ∧ has l p.1 = true ∧ ∀ s ∈ p.2, has l s = true := by
  unfold labErr at h
  split at h
  · omega
  · refine ⟨by omega, fun p hp => ?_⟩
    have h0 : polErr l p = 0 := by
      apply Decidable.byContradiction
      intro hne
      cases hf : x.find? (fun p => polErr l p != 0) with
      | none =>
        rw [List.find?_eq_none] at hf
        have := hf p hp
        simp at this
        exact hne this
      | some y =>
        rw [hf] at h
        have := List.find?_some hf
        have h' : polErr l y = 0 := h
        simp [h'] at this
    unfold polErr at h0
    split at h0
    · omega
    · split at h0
      · rename_i h1 h2
        simp only [List.all_cons, Bool.and_eq_true, List.all_eq_true] at h2
        exact ⟨by omega, h2.1, h2.2⟩
      · omega
theorem polErr_many {l : List Txt} {p : Pol} (h : 6 < p.2.length) : polErr l p = 2 := by unfold polErr; rw [if_pos h]
theorem polErr_who {l ys : List Txt} {p : Pol} (e : p.1 :: p.2 = ys) (h : ¬ 6 < p.2.length) {k : Nat} (hk : k < ys.length) (hh : has l ys[k] = false) : polErr l p = 5 := by
  subst e
  unfold polErr
  rw [if_neg h, if_neg]
  intro ha
  rw [List.all_eq_true] at ha
  rw [ha _ (List.getElem_mem hk)] at hh
  cases hh
theorem polErr_ok {l ys : List Txt} {p : Pol} (e : p.1 :: p.2 = ys) (h : ¬ 6 < p.2.length) (hh : ∀ k (hk : k < ys.length), has l ys[k] = true) : polErr l p = 0 := by
  subst e
  unfold polErr
  rw [if_neg h, if_pos]
  rw [List.all_eq_true]
  intro s hs
  obtain ⟨k, hk, rfl⟩ := List.getElem_of_mem hs
  exact hh k hk
end Go.Proofs.YtcgihpfanfbonaaGreatDoor
namespace Go.Proofs.YtcgihpfanfbonaaGreatDoor
open Go.RowKit Go.Maps
set_option linter.unusedVariables false
set_option linter.unusedSimpArgs false

theorem Tryz.info_stringL : (Tryz.prog.info? 9).map (fun i => (i.zero, i.size, i.bytes)) = some (some (.string ByteArray.empty), 1, 16) := by kernel_rfl

/-- Laid one behind the other: an owner and readers. -/
theorem strs_of_own {w : World} {o : Txt} {rs : List Txt} {base n : Nat} {e : TypeId} {v : Value} {xs : List Value} (h : w.ownsRow base e 1 v n ([.string o] ++ xs)) (hn : n = 1 + rs.length) (hr : Rows txt 1 w rs xs) : Strs w (o :: rs) v := by
  have hn' : n = (o :: rs).length := by rw [hn]; simp; omega
  subst hn'
  exact SliceOf.of_rows h ⟨[.string o], xs, rfl, rfl, rfl, hr⟩

set_option maxHeartbeats 400000 in
set_option maxRecDepth 100000 in
theorem labcheck_calls (l : List Txt) (x : Lab) (v u : Value) (w : World) (hv : Strs w l v) (hu : Lbl w x u) :
    Calls Tryz.prog 59 #[v, u] w fun e w' => e = .returned (.int .i64 (labErr l x)) ∧ Below w.heap.size w w' := by
  have hv0 := hv
  obtain ⟨b0, o0, c0, p0, rfl, hlc, hcm, hp0, hcells0⟩ := hv.cells
  obtain ⟨b, o, c, p, rfl, hlc1, hcm1, hp, hcells⟩ := hu.cells
  clear hp0 hcells0 hv hu
  obtain ⟨t0, hi, hz0, hz1, hz2⟩ := info_parts Tryz.info_stringL
  by_cases h0 : x.length ≤ 200
  · have h0' : (x.length : Int) ≤ 200 := by omega
    go_enter Tryz.func59, Tryz.ntmps59
    go_wp2
    go_loopw [14] (fun i wr => ∃ k : Nat, k ≤ x.length ∧ i = .int .i64 k ∧ Below w.heap.size w wr ∧ Hid (∀ j (hj : j < x.length), j < k → polErr l x[j] = 0)) (fun i _ => x.length - (intOf i).toNat)
    case atStart => exact ⟨0, Nat.zero_le _, rfl, Below.refl _ _, fun j _ hj => absurd hj (Nat.not_lt_zero _)⟩
    case round =>
      obtain ⟨k, hk, rfl, hb, HN⟩ := hrel
      by_cases hlt : k < x.length
      · obtain ⟨ur, hca, hcb, hur⟩ := hcells k hlt
        have hcell1 : wr.cell? ⟨b, o + k * 2, none⟩ = some (.string x[k].1) := (hb.cell (cell_lt hca)).trans hca
        have hcell2 : wr.cell? ⟨b, o + k * 2 + 1, none⟩ = some ur := (hb.cell (cell_lt hcb)).trans hcb
        obtain rfl := hp (by omega)
        clear hp hcells hca hcb
        obtain ⟨pr, cr, xs, rfl, hl1, hl2, hrow, hpn, hnews⟩ := SliceOf.rows (by decide) hur
        by_cases h6 : 6 < x[k].2.length
        · have h6' : 6 < (x[k].2.length : Int) := by omega
          have HX : Hid (labErr l x = 2) := by
            show labErr l x = 2
            have e := polErr_many (l := l) h6
            rw [labErr_at h0 hlt (by rw [e]; omega) HN.out, e]
          go_wp2
          go_ret
          exact ⟨ret_int HX.out.symm, hb.alloc hb.size _⟩
        · have h6' : (x[k].2.length : Int) ≤ 6 := by omega
          have hbA : Below w.heap.size w (wr.alloc (.cells #[.string x[k].1, .slice pr x[k].2.length cr] 37)) := hb.alloc hb.size _
          have hk2 := keeps_of_below (((Below.refl wr.heap.size wr).alloc (Nat.le_refl _) (.cells #[.string x[k].1, .slice pr x[k].2.length cr] 37)).alloc (by simp) (.cells #[.string x[k].1] 9))
          have hk3 := (keeps_of_below hb).trans hk2
          have HB := Lib.hid hb
          have HROW := Lib.hid hrow
          have HNEWS := Lib.hid hnews
          have hsize := hb.size
          have hlen6 : x[k].2.length ≤ 6 := by omega
          have hown0 : ((wr.alloc (.cells #[.string x[k].1, .slice pr x[k].2.length cr] 37)).alloc (.cells #[.string x[k].1] 9)).ownsRow w.heap.size 9 1 (.slice (some ⟨wr.heap.size + 1, 0, none⟩) 1 1) 1 [.string x[k].1] := by
            have := World.ownsRow_lit (base := w.heap.size) (e := 9) (size := 1) (wr.alloc (.cells #[.string x[k].1, .slice pr x[k].2.length cr] 37)) #[.string x[k].1] 1 hbA.size (by unfold maxLen; decide) rfl
            simpa using this
          clear hrow hnews hur hbA hk2
          go_wp2_with (at_builtin; refine wpList_append_src _ rfl _ _ 22 rfl w.heap.size 9 t0 (.string ByteArray.empty) 1 16 Tryz.underlying22 hi hz0 hz1 hz2 rfl (by decide) _ _ _ rfl hown0 pr x[k].2.length cr xs rfl HROW.out.length hpn ?c1 (Rows.plain txt_plain HROW.out) ?c2 ?c3 ?c4 ?_)
          case c1 => exact fun ad e j u hu => cell_keep hk3 (HNEWS.out ad e j u hu)
          case c2 => unfold maxLen; omega
          case c3 => omega
          case c4 => simp; omega
          · intro v' w5 hown' hgrow
            have hS : Strs w5 (x[k].1 :: x[k].2) v' := strs_of_own hown' rfl (Rows.free (One.free _) HROW.out)
            have hb5 : Below w.heap.size w w5 := ((HB.out.alloc HB.out.size _).alloc (by have := HB.out.size; simp; omega) _).grown hgrow (by have := HB.out.size; simp; omega) (fun q hq => by simp [Value.ownBlock] at hq; have := HB.out.size; omega)
            have HB5 := Lib.hid hb5
            generalize hys : x[k].1 :: x[k].2 = ys at hS
            have HYS := Lib.hid hys
            obtain ⟨b7, o7, c7, p7, rfl, hl7, hc7, hp7, hcells7⟩ := hS.cells
            obtain rfl := hp7 (by rw [← hys]; simp)
            clear hys
            clear hown' hgrow hS hk3 hcell1 hcell2 hb hp7
            go_wp2
            go_loopw [8, 29] (fun _ i wr => ∃ m : Nat, m ≤ ys.length ∧ i = .int .i64 m ∧ Below w5.heap.size w5 wr ∧ Hid (∀ j (hj : j < ys.length), j < m → has l ys[j] = true)) (fun _ i _ => ys.length - (intOf i).toNat)
            case atStart => exact ⟨0, Nat.zero_le _, rfl, Below.refl _ _, fun j _ hj => absurd hj (Nat.not_lt_zero _)⟩
            case round =>
              obtain ⟨m, hm, rfl, hbr, HM⟩ := hrel
              have hbw : Below w.heap.size w wr := HB5.out.trans (hbr.mono HB5.out.size)
              by_cases hltm : m < ys.length
              · have hcell : wr.cell? ⟨b7, o7 + m, none⟩ = some (.string ys[m]) := (hbr.cell (cell_lt (hcells7 m hltm))).trans (hcells7 m hltm)
                clear hcells7
                have hS := hv0.stays (keeps_of_below hbw)
                generalize hy : ys[m] = y at *
                have HY := Lib.hid hy
                clear hy
                cases hh : has l y with
                | true =>
                  have HH := Lib.hid hh
                  go_wp2_with (fail)
                  refine (contains_calls l y _ _ hS).mono ?_
                  rintro e w' ⟨rfl, rfl⟩
                  rw [hh]
                  clear hh
                  go_wp2
                  go_roundw
                  case rel =>
                    refine ⟨m + 1, by omega, by go_num, hbr, fun j hj hj' => ?_⟩
                    by_cases e : j = m
                    · subst e; rw [HY.out]; exact HH.out
                    · exact HM.out j hj (by omega)
                  case measure => simp [intOf]; omega
                | false =>
                  have HX : Hid (labErr l x = 5) := by
                    show labErr l x = 5
                    have e := polErr_who HYS.out h6 hltm (by rw [HY.out]; exact hh)
                    rw [labErr_at h0 hlt (by rw [e]; omega) HN.out, e]
                  go_wp2_with (fail)
                  refine (contains_calls l y _ _ hS).mono ?_
                  rintro e w' ⟨rfl, rfl⟩
                  rw [hh]
                  clear hh
                  go_wp2
                  go_ret
                  exact ⟨ret_int HX.out.symm, hbw⟩
              · have HX : Hid (polErr l x[k] = 0) := polErr_ok HYS.out h6 fun j hj => HM.out j hj (by omega)
                clear hcells7
                go_wp2
                go_roundw
                case rel =>
                  refine ⟨k + 1, by omega, by go_num, hbw, fun j hj hj' => ?_⟩
                  by_cases e : j = k
                  · subst e; exact HX.out
                  · exact HN.out j hj (by omega)
                case measure => simp [intOf]; omega
      · have HX : Hid (labErr l x = 0) := labErr_none h0 fun j hj => HN.out j hj (by omega)
        clear hp hcells
        go_wp2
        go_ret
        exact ⟨ret_int HX.out.symm, hb⟩
  · have h0' : 200 < (x.length : Int) := by omega
    have HX : Hid (labErr l x = 2) := by show labErr l x = 2; unfold labErr; rw [if_pos (by omega)]
    go_enter Tryz.func59, Tryz.ntmps59
    go_wp2
    go_ret
    exact ⟨ret_int HX.out.symm, Below.refl _ _⟩

/-- What is wrong with chiefs, or else with a label. -/
def labE (l : List Txt) (acts : List (Txt × Txt)) (x : Lab) : Int := if checkC l acts ≠ 0 then checkC l acts else labErr l x
theorem labCheck_calls (l : List Txt) (acts : List (Txt × Txt)) (x : Lab) (v u t : Value) (w : World) (hv : Strs w l v) (hu : Prs w acts u) (ht : Lbl w x t) :
    Calls Tryz.prog 29 #[v, u, t] w fun e w' => e = .returned (.int .i64 (labE l acts x)) ∧ Below w.heap.size w w' := by
  obtain ⟨b0, o0, c0, p0, rfl, _⟩ := hv.cells
  obtain ⟨b1, o1, c1, p1, rfl, _⟩ := hu.cells
  obtain ⟨b2, o2, c2, p2, rfl, _⟩ := ht.cells
  by_cases hc : checkC l acts = 0
  · have HE : Hid (labE l acts x = labErr l x) := by show labE l acts x = _; unfold labE; rw [if_neg (by omega)]
    go_enter Tryz.func29, Tryz.ntmps29
    go_wp2_with (fail)
    refine (check_calls l acts _ _ _ hv hu).mono ?_
    rintro e w1 ⟨rfl, hb1⟩
    rw [hc]
    clear hc
    go_wp2_with (fail)
    refine (labcheck_calls l x _ _ _ (hv.stays (keeps_of_below hb1)) (ht.stays (keeps_of_below hb1))).mono ?_
    rintro e w2 ⟨rfl, hb2⟩
    go_wp2
    go_ret
    exact ⟨ret_int HE.out.symm, hb1.trans (hb2.mono hb1.size)⟩
  · have HE : Hid (labE l acts x = checkC l acts) := by show labE l acts x = _; unfold labE; rw [if_pos (by omega)]
    have hq : (checkC l acts != 0) = true := by simpa using hc
    have hq2 : (checkC l acts == 0) = false := by simpa using hc
    clear hc
    go_enter Tryz.func29, Tryz.ntmps29
    go_wp2_with (fail)
    refine (check_calls l acts _ _ _ hv hu).mono ?_
    rintro e w1 ⟨rfl, hb1⟩
    go_wp2
    go_ret
    exact ⟨ret_int HE.out.symm, hb1⟩
end Go.Proofs.YtcgihpfanfbonaaGreatDoor
