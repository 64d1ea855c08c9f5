/-
  slices.Clone and slices.DeleteFunc over policies; the functions in label.Less.
-/
import Derived.Test.YtcgihpfanfbonaaGreatDoorLN22
namespace Go.Proofs.YtcgihpfanfbonaaGreatDoor
open Go.RowKit Go.Sort Go.Maps
set_option linter.unusedVariables false
set_option linter.unusedSimpArgs false

/-- Cells of policies are policies and slices of readers. -/
theorem rows_pols {w : World} : ∀ {x : Lab} {vs : List Value}, Rows pol 2 w x vs → ∃ d : List PolS, d.map Prod.fst = x ∧ vs = d.flatMap pcells ∧ ∀ y ∈ d, Strs w y.1.2 y.2
  | [], vs, h => by
    have e : vs = [] := h
    subst e
    exact ⟨[], rfl, rfl, fun y hy => by cases hy⟩
  | p :: x, vs, h => by
    obtain ⟨us, us', rfl, h1, h2, h3⟩ := h
    obtain ⟨d, e1, e2, e3⟩ := rows_pols h3
    obtain ⟨us1, us2, rfl, f1, ⟨u, rfl, f2⟩⟩ := h1
    have f1' : us1 = [.string p.1] := f1
    subst f1'
    refine ⟨(p, u) :: d, by simp [e1], by rw [List.flatMap_cons, ← e2]; rfl, fun y hy => ?_⟩
    rcases List.mem_cons.1 hy with rfl | hy
    · exact f2
    · exact e3 y hy
/-- What lies in old memory is read so whatever becomes of a block of the call's own. -/
theorem rob_old {w w' : World} {x : PolS} {M : Option Nat} (h : Strs w x.1.2 x.2) (hb : Below w.heap.size w w') (hM : ∀ k, M = some k → w.heap.size ≤ k) : Rob w' M x := fun W hW =>
  h.stays (keeps_of_below ⟨hW.os.trans hb.os, hW.tape.trans hb.tape, hW.output.trans hb.output, Nat.le_trans hb.size hW.size, fun k hk => by
    rw [hW.block k (Nat.lt_of_lt_of_le hk hb.size) (fun e => by have := hM k e.symm; omega), hb.block k hk]⟩)

set_option maxHeartbeats 1000000 in
set_option maxRecDepth 100000 in
theorem cloneL_calls (x : Lab) (v : Value) (w : World) (h : Lbl w x v) (hn : x.length ≤ 1048576) :
    Calls Tryz.prog 33 #[v] w fun e w' => ∃ v' d, e = .returned v' ∧ d.map Prod.fst = x ∧ PolRow w.heap.size w' v' d ∧ Below w.heap.size w w' := by
  obtain ⟨t0, hi, hz0, hz1, hz2⟩ := info_parts Tryz.info_policy
  obtain ⟨p, c, vs, rfl, hlc, hcm, hr, hp, hx⟩ := SliceOf.rows (by decide) h
  obtain ⟨d, hd1, hd2, hd3⟩ := rows_pols hr
  have q25 : ∀ (w : World) (a : Option Addr) (n c n' c' : Nat), (binOp .eql 25 (.slice a n c) (.slice none n' c')).run Tryz.prog w = .ok (.bool a.isNone) w := fun w a n c n' c' => Lib.run_eql_slice_nil w _ _ a n c n' c' Tryz.underlying25
  cases p with
  | none =>
    have h0 := hp rfl
    have hx0 : x = [] := List.eq_nil_of_length_eq_zero h0
    subst hx0
    clear hx hp hr hd1 hd2 hd3 d
    go_enter Tryz.func33, Tryz.ntmps33
    go_wp2
    go_ret
    exact ⟨_, [], rfl, rfl, ⟨World.ownsRow_nil _ _ _ _, fun y hy => by cases hy⟩, Below.refl _ _⟩
  | some ad =>
    have hx' : ∀ (j : Nat) (u : Value), vs[j]? = some u → w.cell? (ad.add j) = some u := hx ad rfl
    have HX := Lib.hid hx'
    have hdl : d.length = x.length := by rw [← hd1, List.length_map]
    have hvl := hr.length
    have h1 := Rows.plain pol_plain hr
    have HD1 := Lib.hid hd1
    have HD2 := Lib.hid hd2
    have HD3 := Lib.hid hd3
    have HVL := Lib.hid hvl
    have H1 := Lib.hid h1
    clear hx hx' hp hr hd1 hd2 hd3 hvl h1
    go_enter Tryz.func33, Tryz.ntmps33
    go_wp2_with (at_builtin; refine wpList_append_own _ rfl _ _ 25 rfl w.heap.size 37 t0 (.agg #[.string ByteArray.empty, .slice none 0 0]) 2 40 Tryz.underlying25 hi hz0 hz1 hz2 rfl (by decide) _ _ _ rfl (World.ownsRow_made w #[] 0 (Nat.le_refl _) (Nat.zero_le _) (by simp)) ad x.length c vs rfl HVL.out ?qc2 H1.out ?qc4 ?qc5 ?qc6 ?_)
    case qc2 =>
      intro j u hj
      exact Lib.cell?_alloc_some _ (HX.out j u hj)
    case qc4 => unfold maxLen; omega
    case qc5 => omega
    case qc6 => simp
    intro v' w1 hown hgrow _
    have hB : Below w.heap.size w w1 := ((Below.refl _ w).alloc (Nat.le_refl _) _).grown hgrow (by simp) (by intro k hk; simp [Value.ownBlock] at hk; omega)
    have hR : PolRow w.heap.size w1 v' d := by
      have hown' : w1.ownsRow w.heap.size 37 2 v' d.length (d.flatMap pcells) := by
        rw [hdl, ← HD2.out]
        simpa using hown
      exact ⟨hown', fun y hy => rob_old (HD3.out y hy) hB fun k hk => (hown'.lt k hk).1⟩
    have HB := Lib.hid hB
    have HR := Lib.hid hR
    clear hown hgrow hB hR
    go_wp2
    go_ret
    exact ⟨_, d, rfl, HD1.out, HR.out, HB.out⟩

/-- The row while what is left out is dropped: how many were looked at, how many are kept. -/
structure Drop (g : Pol → Bool) (d : List PolS) (m k : Nat) (dk : List PolS) : Prop where
  len : dk.length = d.length
  kept : ((d.take m).filter fun x => g x.1).length = k
  low : dk.take k = (d.take m).filter fun x => g x.1
  high : ∀ j, m ≤ j → dk[j]? = d[j]?
theorem Drop.le {g : Pol → Bool} {d dk : List PolS} {m k : Nat} (h : Drop g d m k dk) : k ≤ m := by
  have h1 := List.length_filter_le (fun x : PolS => g x.1) (d.take m)
  rw [h.kept, List.length_take] at h1
  omega
theorem Drop.skip {g : Pol → Bool} {d dk : List PolS} {m k : Nat} (h : Drop g d m k dk) (hm : m < d.length) (hg : g d[m].1 = false) : Drop g d (m + 1) k dk := by
  have e : (d.take (m + 1)).filter (fun x => g x.1) = (d.take m).filter fun x => g x.1 := by
    rw [List.take_succ_eq_append_getElem hm, List.filter_append]
    simp [hg]
  exact ⟨h.len, by rw [e]; exact h.kept, by rw [e]; exact h.low, fun j hj => h.high j (by omega)⟩
theorem Drop.keep {g : Pol → Bool} {d dk : List PolS} {m k : Nat} (h : Drop g d m k dk) (hm : m < d.length) (hg : g d[m].1 = true) : Drop g d (m + 1) (k + 1) (dk.set k d[m]) := by
  have e : (d.take (m + 1)).filter (fun x => g x.1) = ((d.take m).filter fun x => g x.1) ++ [d[m]] := by
    rw [List.take_succ_eq_append_getElem hm, List.filter_append]
    simp [hg]
  have hk := h.le
  have hl := h.len
  refine ⟨by simp [hl], by rw [e, List.length_append, h.kept]; rfl, ?_, fun j hj => ?_⟩
  · rw [e, ← h.low, List.take_succ_eq_append_getElem (by simp; omega), List.take_set_of_le (by omega)]
    simp
  · rw [List.getElem?_set_ne (by omega)]
    exact h.high j (by omega)
theorem Drop.start {g : Pol → Bool} {d : List PolS} {m : Nat} (hm : m ≤ d.length) (h : ∀ j (hj : j < d.length), j < m → g d[j].1 = true) : Drop g d m m d := by
  have e : (d.take m).filter (fun x => g x.1) = d.take m := by
    rw [List.filter_eq_self]
    intro x hx
    obtain ⟨j, hj, rfl⟩ := List.getElem_of_mem hx
    rw [List.length_take] at hj
    rw [List.getElem_take]
    exact h j (by omega) (by omega)
  exact ⟨rfl, by rw [e, List.length_take]; omega, e.symm, fun _ _ => rfl⟩
theorem idxBy_cases {l : List Pol} {f : Pol → Bool} : (idxBy l f = -1 ∧ ∀ x ∈ l, f x = false) ∨ ∃ k : Nat, idxBy l f = k ∧ ∃ h : k < l.length, f l[k] = true ∧ ∀ j (hj : j < l.length), j < k → f l[j] = false := by
  unfold idxBy
  cases e : l.findIdx? f with
  | none => exact .inl ⟨rfl, fun x hx => List.findIdx?_eq_none_iff.1 e x hx⟩
  | some k =>
    obtain ⟨h1, h2, h3⟩ := List.findIdx?_eq_some_iff_getElem.1 e
    exact .inr ⟨k, rfl, h1, h2, fun j hj hlt => by simpa using h3 j hlt⟩

set_option maxHeartbeats 4000000 in
set_option maxRecDepth 100000 in
theorem deleteL_calls (base : Nat) (v : Value) (d : List PolS) (w : World) (fn : FuncId) (lb : Array Value) (f : Pol → Bool) (h : PolRow base w v d) (hsz : d.length ≤ 1048576) (eg : ∀ args w, (callFunc fn args).run Tryz.prog w = .ok (.enter fn args) w)
    (hq : ∀ W, w.grownBy W v.ownBlock → ∀ x ∈ d, ∀ vr, Strs W x.1.2 vr → Calls Tryz.prog fn (#[.agg #[.string x.1.1, vr]] ++ lb) W fun e w' => e = .returned (.bool (f x.1)) ∧ Below W.heap.size W w') :
    Calls Tryz.prog 32 #[v, .func (.func fn) #[] lb] w fun e w' => ∃ v', e = .returned v' ∧ Lbl w' ((d.map Prod.fst).filter fun p => !f p) v' ∧ w.grownBy w' v.ownBlock := by
  have HGB : Hid (∀ W, Below w.heap.size w W → w.grownBy W v.ownBlock) := fun W hb => ⟨hb.os, hb.tape, hb.output, hb.size, fun k hk _ => hb.block k hk⟩
  have HT : Hid (TellsPol w (d.map Prod.fst) fn lb f) := fun x hx vr w1 hb1 hs => by
    obtain ⟨y, hy, rfl⟩ := List.mem_map.1 hx
    exact hq w1 (HGB.out w1 hb1) y hy vr hs
  rcases h.1.2 with ⟨rfl, hn⟩ | ⟨g, cap, cur, rfl, hbase, hblk, q1, q2, q3, q4⟩
  · obtain rfl : d = [] := List.eq_nil_of_length_eq_zero hn
    have HI := Lib.hid (indexPol_calls [] (.slice none 0 0) fn lb f w (nilL w) eg HT.out)
    have hx : idxBy ([] : List Pol) f = -1 := rfl
    rw [hx] at HI
    clear hq HT eg h
    go_enter Tryz.func32, Tryz.ntmps32
    go_wp2_with (fail)
    refine HI.out.mono ?_
    rintro e w1 ⟨rfl, hb1⟩
    go_wp2
    go_ret
    exact ⟨_, rfl, nilL _, HGB.out _ hb1⟩
  have hg : g < w.heap.size := (Array.getElem?_eq_some_iff.1 hblk).1
  have hmx := q2
  unfold maxLen at hmx
  have HQ2 := Lib.hid q2
  have HQ := Lib.hid hq
  have HH := Lib.hid h
  have HG := Lib.hid hg
  have hL : Lbl w (d.map Prod.fst) (.slice (some ⟨g, 0, none⟩) d.length cap) := by
    have := h.label rfl q1 q2 d.length (Nat.le_refl _) (World.grownBy.refl _ _) fun _ _ => rfl
    rwa [List.take_length] at this
  have HI := Lib.hid (indexPol_calls (d.map Prod.fst) _ fn lb f w hL eg HT.out)
  have HEG := Lib.hid eg
  have HL := Lib.hid hL
  clear h hblk q3 q4 hg q2 hq eg hL HT
  rcases idxBy_cases (l := d.map Prod.fst) (f := f) with ⟨hx, hall⟩ | ⟨k, hx, hk, hfk, hfj⟩
  · rw [hx] at HI
    have HE : Hid ((d.map Prod.fst).filter (fun p => !f p) = d.map Prod.fst) := by
      unfold Hid
      rw [List.filter_eq_self]
      intro p hp
      rw [hall p hp]; rfl
    clear hx hall
    go_enter Tryz.func32, Tryz.ntmps32
    go_wp2_with (fail)
    refine HI.out.mono ?_
    rintro e w1 ⟨rfl, hb1⟩
    go_wp2
    go_ret
    refine ⟨_, rfl, ?_, HGB.out _ hb1⟩
    rw [HE.out]
    exact HL.out.stays (keeps_of_below hb1)
  · rw [hx] at HI
    have hk' : k < d.length := by simpa using hk
    have HST : Hid (Drop (fun p => !f p) d (k + 1) k d) := by
      refine (Drop.start (g := fun p => !f p) (by omega) fun j hj hlt => ?_).skip hk' ?_
      · have := hfj j (by simpa using hj) hlt
        simp at this
        simp [this]
      · simp at hfk
        simp [hfk]
    have q5 : ((k : Int) == -1) = false := beq_eq_false_iff_ne.2 (by omega)
    have q6 : ((k : Int) != -1) = true := bne_iff_ne.2 (by omega)
    clear hx hfk hfj hk
    go_enter Tryz.func32, Tryz.ntmps32
    go_wp2_with (fail)
    refine HI.out.mono ?_
    rintro e w1 ⟨rfl, hb1⟩
    have HR1 : Hid (PolRow base w1 (.slice (some ⟨g, 0, none⟩) d.length cap) d) := HH.out.other hb1
    have HG1 : Hid (w.grownBy w1 (some g)) := HGB.out _ hb1
    clear hb1
    go_wp2
    go_loopw [5, 6, 7] (fun iv jv _ ws => ∃ (m kk : Nat) (dk : List PolS) (wo : World), jv = .int .i64 (m : Int) ∧ iv = .int .i64 (kk : Int) ∧ wo = ws ∧ kk < m ∧ m ≤ d.length ∧ Hid (Drop (fun p => !f p) d m kk dk) ∧ Hid (PolRow base wo (.slice (some ⟨g, 0, none⟩) d.length cap) dk) ∧ Hid (w.grownBy wo (some g)))
      (fun _ jv _ _ => d.length - (intOf jv).toNat)
    case atStart => exact ⟨k + 1, k, d, _, by go_num, rfl, rfl, by omega, by omega, HST, HR1, HG1⟩
    case round =>
      clear q5 q6
      obtain ⟨m, kk, dk, wo, rfl, rfl, rfl, hkm, hm, HSH, HRW, HGR⟩ := hrel
      have hlen := HSH.out.len
      have eg := HEG.out
      have hrow : wo.ownsRow base 37 2 (.slice (some ⟨g, 0, none⟩) d.length cap) d.length (dk.flatMap pcells) := by have := HRW.out.1; rwa [hlen] at this
      by_cases hlt : m < d.length
      · have e1 : dk[m]? = d[m]? := HSH.out.high _ (Nat.le_refl _)
        rw [List.getElem?_eq_getElem hlt, List.getElem?_eq_getElem (by omega)] at e1
        have e1' := Option.some.inj e1
        obtain ⟨c0, c1, hfz⟩ := row_cells hrow hlen.symm (show m < dk.length by omega)
        obtain ⟨c4, c5, _⟩ := row_cells hrow hlen.symm (show kk < dk.length by omega)
        have hrb1 : Rob wo (some g) d[m] := by rw [← e1']; exact HRW.out.2 _ (List.getElem_mem _)
        rw [e1'] at c0 c1
        have HRB1 := Lib.hid hrb1
        have HLN := Lib.hid hlen
        have HFZ := Lib.hid hfz
        obtain ⟨p1, k1, ev, _⟩ := hrb1.strs
        rw [ev] at c1
        have HEV := Lib.hid ev
        obtain ⟨W4, eW4⟩ : ∃ W4, wo.alloc (.cells #[.string d[m].1.1, .slice p1 d[m].1.2.length k1] 37) = W4 := ⟨_, rfl⟩
        obtain ⟨z4, hW4, m4⟩ := boxes1 eW4
        have h40 := m4 0
        have h41 := m4 1
        simp only [List.getElem?_toArray, List.getElem?_cons_zero, List.getElem?_cons_succ] at h40 h41
        have HG4 : Hid (w.grownBy W4 (some g)) := grown_below HGR.out hW4
        have HJ : Hid (Calls Tryz.prog fn (#[.agg #[.string d[m].1.1, .slice p1 d[m].1.2.length k1]] ++ lb) W4 fun e w' => e = .returned (.bool (f d[m].1)) ∧ Below W4.heap.size W4 w') :=
          HQ.out W4 HG4.out d[m] (List.getElem_mem hlt) _ (by rw [← ev]; exact hrb1.strs.stays (keeps_of_below hW4))
        have hgl : g < wo.heap.size := cell_lt c0
        have HW4 := Lib.hid hW4
        generalize hd4 : dk[kk].1.1 = o4 at c4
        generalize hd5 : dk[kk].2 = o5 at c5
        have HC : Hid (∀ W, Below W4.heap.size W4 W → W.cell? ⟨wo.heap.size, 0, none⟩ = some (.string d[m].1.1) ∧ W.cell? ⟨wo.heap.size, 1, none⟩ = some (.slice p1 d[m].1.2.length k1) ∧ W.cell? ⟨g, kk * 2, none⟩ = some (.string o4) ∧ W.cell? ⟨g, kk * 2 + 1, none⟩ = some o5 ∧ (∀ j, W.frozen? ⟨g, j, none⟩ = false) ∧ PolRow base W (.slice (some ⟨g, 0, none⟩) d.length cap) dk ∧ w.grownBy W (some g) ∧ Rob W (some g) d[m]) := fun W hb => by
          have hbo : Below wo.heap.size wo W := HW4.out.trans (hb.mono HW4.out.size)
          exact ⟨(hb.cell (p := ⟨wo.heap.size, 0, none⟩) (by simp only; omega)).trans h40, (hb.cell (p := ⟨wo.heap.size, 1, none⟩) (by simp only; omega)).trans h41,
            (hbo.cell (p := ⟨g, kk * 2, none⟩) hgl).trans c4, (hbo.cell (p := ⟨g, kk * 2 + 1, none⟩) hgl).trans c5, fun j => (hbo.frozen (p := ⟨g, j, none⟩) hgl).trans (HFZ.out j),
            HRW.out.other hbo, grown_below HGR.out hbo, HRB1.out.grown ⟨hbo.os, hbo.tape, hbo.output, hbo.size, fun q hq _ => hbo.block q hq⟩⟩
        have hkd : kk < d.length := by omega
        clear e1 e1' hrb1 hfz ev m4 hW4 c4 c5 hd4 hd5 hrow
        cases hf : f d[m].1 with
        | true =>
          have HSN : Hid (Drop (fun p => !f p) d (m + 1) kk dk) := HSH.out.skip hlt (by simp [hf])
          rw [hf] at HJ
          clear hf
          go_wp2_with (fail)
          refine HJ.out.mono ?_
          rintro e w5 ⟨rfl, hb5⟩
          obtain ⟨f0, f1, f2, f3, f4, f5, f6, f7⟩ := HC.out w5 hb5
          have HR5 := Lib.hid f5
          have HG5 := Lib.hid f6
          clear f2 f3 f4 f5 f6 f7 hb5
          go_wp2
          go_roundw
          case rel => exact ⟨m + 1, kk, dk, _, by go_num, rfl, rfl, by omega, by omega, HSN, HR5, HG5⟩
          case measure => simp [intOf]; omega
        | false =>
          have HSN : Hid (Drop (fun p => !f p) d (m + 1) (kk + 1) (dk.set kk d[m])) := HSH.out.keep hlt (by simp [hf])
          rw [hf] at HJ
          clear hf
          go_wp2_with (fail)
          refine HJ.out.mono ?_
          rintro e w5 ⟨rfl, hb5⟩
          obtain ⟨f0, f1, f2, f3, f4, f5, f6, f7⟩ := HC.out w5 hb5
          have hz1 := f4 (kk * 2)
          have hz2 := f4 (kk * 2 + 1)
          have HRP : Hid (PolRow base ((w5.setCell ⟨g, kk * 2, none⟩ (.string d[m].1.1)).setCell ⟨g, kk * 2 + 1, none⟩ (.slice p1 d[m].1.2.length k1)) (.slice (some ⟨g, 0, none⟩) d.length cap) (dk.set kk d[m])) := by
            have := f5.put HLN.out.symm (show kk < dk.length by rw [HLN.out]; exact hkd) f7
            rwa [HEV.out] at this
          have HGP : Hid (w.grownBy ((w5.setCell ⟨g, kk * 2, none⟩ (.string d[m].1.1)).setCell ⟨g, kk * 2 + 1, none⟩ (.slice p1 d[m].1.2.length k1)) (some g)) :=
            grown_grown f6 (grown_grown (grown_setCell _ ⟨g, kk * 2, none⟩ _) (grown_setCell _ ⟨g, kk * 2 + 1, none⟩ _))
          clear f4 f5 f6 f7 hb5 HC
          go_wp2
          go_roundw
          case rel => exact ⟨m + 1, kk + 1, dk.set kk d[m], _, by go_num, by go_num, rfl, by omega, by omega, HSN, HRP, HGP⟩
          case measure => simp [intOf]; omega
      · obtain rfl : m = d.length := by omega
        have hres : (dk.take kk).map Prod.fst = (d.map Prod.fst).filter fun p => !f p := by
          rw [HSH.out.low, List.take_length, List.filter_map]
          rfl
        have hkd : kk < d.length := by omega
        have hcl0 : ∀ j, j < (d.length - kk) * 2 → (wo.cell? ⟨g, kk * 2 + j, none⟩).isSome = true := fun j hj => by
          obtain ⟨c0, c1, _⟩ := row_cells hrow hlen.symm (show kk + j / 2 < dk.length by omega)
          have : j % 2 = 0 ∨ j % 2 = 1 := by omega
          rcases this with h | h
          · rw [show kk * 2 + j = (kk + j / 2) * 2 by omega, c0]; rfl
          · rw [show kk * 2 + j = (kk + j / 2) * 2 + 1 by omega, c1]; rfl
        have hfz := (row_cells hrow hlen.symm (show kk < dk.length by omega)).2.2
        obtain ⟨W, hcl, hgw, hlow⟩ := clear_run (P := Tryz.prog) wo 25 37 (.agg #[.string ByteArray.empty, .slice none 0 0]) Tryz.underlying25 polZero rfl g (kk * 2) (d.length - kk) (cap - kk) hcl0 hfz
        have HLB : Hid (Lbl W ((d.map Prod.fst).filter fun p => !f p) (.slice (some ⟨g, 0, none⟩) kk cap)) := by
          rw [← hres]
          exact HRW.out.label hlen.symm (by omega) HQ2.out kk (by omega) hgw hlow
        have HGW := Lib.hid (grown_grown HGR.out hgw)
        clear hres hcl0 hfz hgw hlow hlen hrow HSH HRW HGR
        go_wp2
        go_ret
        exact ⟨_, rfl, HLB.out, HGW.out⟩

section
variable (q : Txt → Txt → Bool) (vc : Value) (r : Nat)
theorem lessG_calls (s : Txt) (x : Pol) (vx : Value) (g1 g2 : Nat) (w : World) (hp : PairsAt w r q) (hs : okTxt s) (hx : okPol x)
    (h1 : w.cell? ⟨g1, 0, none⟩ = some vc) (h2 : w.cell? ⟨g1, 1, none⟩ = some (.map (some r))) (h3 : w.cell? ⟨g2, 0, none⟩ = some (.string x.1)) (h4 : w.cell? ⟨g2, 1, none⟩ = some vx) :
    Calls Tryz.prog 35 #[.string s, .pointer (some ⟨g1, 0, none⟩), .pointer (some ⟨g2, 0, none⟩)] w fun e w' => e = .returned (.bool (q s x.1)) ∧ Below w.heap.size w w' := by
  go_enter Tryz.func35, Tryz.ntmps35
  go_wp2_with (fail)
  refine (wacts_calls q vc r s x.1 _ hp hs hx.1).mono ?_
  rintro e w1 ⟨rfl, hb⟩
  go_wp2
  go_ret
  exact ⟨rfl, hb⟩

set_option maxHeartbeats 1000000 in
theorem lessF_calls (by_ : List Txt) (x : Pol) (vx vb : Value) (g1 g2 : Nat) (w : World) (hp : PairsAt w r q) (hbo : okList okTxt by_) (hx : okPol x) (hr : Strs w x.2 vx) (hb : Strs w by_ vb)
    (h0 : w.cell? ⟨g2, 0, none⟩ = some vb) (h1 : w.cell? ⟨g1, 0, none⟩ = some vc) (h2 : w.cell? ⟨g1, 1, none⟩ = some (.map (some r))) :
    Calls Tryz.prog 34 #[.agg #[.string x.1, vx], .pointer (some ⟨g2, 0, none⟩), .pointer (some ⟨g1, 0, none⟩)] w fun e w' => e = .returned (.bool (leftOut q by_ x)) ∧ Below w.heap.size w w' := by
  obtain ⟨bx, ox, cx, px, rfl, _⟩ := hr.cells
  obtain ⟨bb, ob, cb, pb, rfl, _⟩ := hb.cells
  obtain ⟨W2, eW⟩ : ∃ W2, w.alloc (.cells #[.string x.1, .slice px x.2.length cx] 37) = W2 := ⟨_, rfl⟩
  obtain ⟨z2, hW, m1⟩ := boxes1 eW
  have h10 := m1 0
  have h11 := m1 1
  simp only [List.getElem?_toArray, List.getElem?_cons_zero, List.getElem?_cons_succ] at h10 h11
  have k0 : W2.cell? ⟨g2, 0, none⟩ = some (.slice pb by_.length cb) := (hW.cell (cell_lt h0)).trans h0
  have k1 : W2.cell? ⟨g1, 0, none⟩ = some vc := (hW.cell (cell_lt h1)).trans h1
  have k2 : W2.cell? ⟨g1, 1, none⟩ = some (.map (some r)) := (hW.cell (cell_lt h2)).trans h2
  have HP := Lib.hid (hp.below hW)
  have HB := Lib.hid (hb.stays (keeps_of_below hW))
  have HW := Lib.hid hW
  have K1 := Lib.hid k1
  have K2 := Lib.hid k2
  have H10 := Lib.hid h10
  have H11 := Lib.hid h11
  have HBO := Lib.hid hbo
  have eg : ∀ args w, (callFunc 35 args).run Tryz.prog w = .ok (.enter 35 args) w := enters_at Tryz.func35 (by kernel_rfl) rfl
  have HEG := Lib.hid eg
  clear m1 hW hp hb hr h0 h1 h2 eg hbo k1 k2 h10 h11
  go_enter Tryz.func34, Tryz.ntmps34
  go_wp2_with (fail)
  refine (containsFunc_calls by_ _ 35 #[.pointer (some ⟨g1, 0, none⟩), .pointer (some ⟨w.heap.size, 0, none⟩)] (fun s => q s x.1) _ HB.out HEG.out ?_).mono ?_
  · intro s hs w2 hb2
    exact lessG_calls q vc r s x _ g1 w.heap.size w2 (HP.out.below hb2) (HBO.out s hs) hx ((hb2.cell (cell_lt K1.out)).trans K1.out) ((hb2.cell (cell_lt K2.out)).trans K2.out)
      ((hb2.cell (cell_lt H10.out)).trans H10.out) ((hb2.cell (cell_lt H11.out)).trans H11.out)
  · rintro e w2 ⟨rfl, hb2⟩
    go_wp2
    go_ret
    exact ⟨rfl, HW.out.trans (hb2.mono HW.out.size)⟩
end
end Go.Proofs.YtcgihpfanfbonaaGreatDoor
