/-
  The reference's Brings and BrokenOf. slices.Equal over numbers. cloisterlaw.solved: the closed fact of two bounds.
-/
import Derived.Test.YtcgihpfanfbonaaGreatDoorSB00
import Derived.Test.YtcgihpfanfbonaaGreatDoorSB01
import Derived.Test.YtcgihpfanfbonaaGreatDoorSB02
import Derived.Maps.AppendAt
import Derived.Test.YtcgihpfanfbonaaGreatDoorLN05
import Derived.Test.YtcgihpfanfbonaaGreatDoorLN22
namespace Go.Proofs.YtcgihpfanfbonaaGreatDoor
open Go.RowKit Go.Maps
set_option linter.unusedVariables false
set_option linter.unusedSimpArgs false

theorem rows_of_pols {w : World} : ∀ (d : List PolS), (∀ y ∈ d, Strs w y.1.2 y.2) → Rows pol 2 w (d.map Prod.fst) (d.flatMap pcells)
  | [], _ => rfl
  | y :: d, h => ⟨[.string y.1.1, y.2], d.flatMap pcells, rfl, ⟨[.string y.1.1], [y.2], rfl, rfl, ⟨_, rfl, h y List.mem_cons_self⟩⟩, rfl, rows_of_pols d fun z hz => h z (List.mem_cons_of_mem _ hz)⟩
theorem PolRow.lbl {base : Nat} {w : World} {v : Value} {d : List PolS} (h : PolRow base w v d) : Lbl w (d.map Prod.fst) v :=
  SliceOf.of_rows (base := base) (e := 37) (xs := d.flatMap pcells) (by rw [List.length_map]; exact h.1) (rows_of_pols d fun y hy => (h.2 y hy).strs)
theorem PolRow.more {base : Nat} {w w9 : World} {v v9 : Value} {d d2 : List PolS} (h : PolRow base w v d) (hx : ∀ y ∈ d2, Rob w v.ownBlock y) (hown : w9.ownsRow base 37 2 v9 (d.length + d2.length) (d.flatMap pcells ++ d2.flatMap pcells)) (hg : w.grownBy w9 v.ownBlock)
    (hb : v9.ownBlock = v.ownBlock ∨ v9.ownBlock = some w.heap.size) : PolRow base w9 v9 (d ++ d2) := by
  refine ⟨by simpa using hown, fun y hy => ?_⟩
  have hy' : Rob w v.ownBlock y := by
    rcases List.mem_append.1 hy with hy | hy
    · exact h.2 y hy
    · exact hx y hy
  rcases hb with e | e
  · rw [e]; exact hy'.grown hg
  · rw [e]; exact hy'.fresh hg (Nat.le_refl _)
theorem PolRow.belowS {base : Nat} {w w' : World} {v : Value} {d : List PolS} (h : PolRow base w v d) (hb : Below w.heap.size w w') : PolRow base w' v d := h.other hb
section
variable {P : Program} (w : World)
/-- append onto a row of the call's own, of a slice that is nil or not; where the new row lies. -/
theorem wpList_append_src_at {ops : Array Oper} {rest : List Oper} {o : Oper} {a : Act} {Q : Exit → Act → World → Prop} (hgd : o.guard = none) (s x : Operand) (t : TypeId)
    (ho : o.op = .call { callee := .builtin .append, args := #[s, x], argTypes := #[t, t] })
    (base : Nat) (e : TypeId) (i : TypeInfo) (z : Value) (size bytes : Nat) (ht : P.underlying t = some (.slice e)) (hi : P.info? e = some i) (hz : i.zero = some z)
    (hsize : i.size = size) (hby : i.bytes = bytes) (hzs : z.cells.size = size) (hsz : 0 < size)
    (v : Value) (n : Nat) (xs : List Value) (hs : a.eval s = v) (hown : w.ownsRow base e size v n xs)
    (p : Option Addr) (m c : Nat) (news : List Value) (hx : a.eval x = .slice p m c) (hl : news.length = m * size) (hp : p = none → m = 0)
    (hnews : ∀ ad : Addr, p = some ad → ∀ (j : Nat) (u : Value), news[j]? = some u → w.cell? (ad.add j) = some u) (h1 : ∀ u ∈ news, u.oneCell' = true)
    (h63 : n + m ≤ maxLen) (hbytes : (n + m) * bytes ≤ 140737488355328) (hbase : base ≤ w.heap.size)
    (h : ∀ v' w', w'.ownsRow base e size v' (n + m) (xs ++ news) → w.grownBy w' v.ownBlock → (v'.ownBlock = v.ownBlock ∨ v'.ownBlock = some w.heap.size) → wpList P ops Q rest (a.put o.dst v') w') : wpList P ops Q (o :: rest) a w := by
  rcases p with _ | ad
  · have hm := hp rfl
    subst hm
    have hn : news = [] := List.eq_nil_of_length_eq_zero (by simpa using hl)
    subst hn
    refine Lib.wpList_append_run w hgd s x t t ho v (.slice none 0 c) hs hx v w (run_append_nilsrc w base t o.type e i size ht hi v n xs hown c) ?_
    exact h v w (by simpa using hown) (World.grownBy.refl w _) (.inl rfl)
  · exact wpList_append_own_at w hgd s x t ho base e i z size bytes ht hi hz hsize hby hzs hsz v n xs hs hown ad m c news hx hl (hnews ad rfl) h1 h63 hbytes hbase fun v' w' h2 h3 _ h4 => h v' w' h2 h3 h4
end
theorem all_len {m : List Lab} (hlen : ∀ x ∈ m, x.length ≤ 200) (s : Lab) (hs : s.length ≤ 200) : ∀ (ks : List Int), (allL m s ks).length ≤ 200 + ks.length * 200 := fun ks => by
  unfold allL
  rw [List.length_append]
  have : ∀ ks : List Int, (ks.flatMap (atL m)).length ≤ ks.length * 200 := by
    intro ks
    induction ks with
    | nil => simp
    | cons k ks ih =>
      rw [List.flatMap_cons, List.length_append, List.length_cons, Nat.add_mul]
      have h1 : (atL m k).length ≤ 200 := by
        unfold atL
        cases h : m[k.toNat]? with
        | none => simp
        | some x => exact hlen x (List.mem_of_getElem? h)
      omega
  have := this ks
  omega

set_option maxHeartbeats 4000000 in
set_option maxRecDepth 100000 in
theorem brings_calls (l : List Txt) (acts : List (Txt × Txt)) (m : List Lab) (b : Bnd) (u vm x0 x1 x3 x5 : Value) (w : World) (hu : Prs w acts u) (hm : Labs w m vm) (hb : BndIs w b x0 x1 (.int .i64 (bTo b)) x3 (.int .i64 b.2.2.2.2.1) x5)
    (hc : checkC l acts = 0) (hrm : RightM l m.length m) (hlen : ∀ x ∈ m, x.length ≤ 200) (hrb : RightB l m.length b) :
    Calls Tryz.prog 57 #[u, vm, .agg #[x0, x1, .int .i64 (bTo b), x3, .int .i64 b.2.2.2.2.1, x5]] w fun e w' => ∃ y, e = .returned y ∧ Lbl w' (lessL (mayB l acts) (allL m (bL b) (bFrom b)) (bFor b)) y ∧ Below w.heap.size w w' := by
  have hu0 := hu
  obtain ⟨b1, o1, c1, p1, rfl, _⟩ := hu.cells
  obtain ⟨b2, o2, c2, p2, rfl, hlc2, hcm2, hp2, hcells2⟩ := hm.cells
  have hfr := hb.from_
  have hla := hb.lab
  have hin := hb.into
  have hfo := hb.for_
  obtain ⟨bf, of_, cf, pf, rfl, _, hcf, hpf, hcellf⟩ := hfr.cells
  obtain ⟨bl, ol, cl, pl, rfl, _⟩ := hla.cells
  obtain ⟨bi, oi, ci, pi_, rfl, _⟩ := hin.cells
  obtain ⟨bo, oo, co, po, rfl, _⟩ := hfo.cells
  obtain ⟨t1, hi', hz0', hz1', hz2'⟩ := info_parts Tryz.info_policy
  obtain ⟨W1, eW⟩ : ∃ W1, w.alloc (.cells #[.slice pf (bFrom b).length cf, .slice pl (bL b).length cl, .int .i64 (bTo b), .slice pi_ (bInto b).length ci, .int .i64 b.2.2.2.2.1, .slice po (bFor b).length co] 93) = W1 := ⟨_, rfl⟩
  obtain ⟨z1, hW, m1⟩ := boxes1 eW
  have j0 := m1 0
  have j1 := m1 1
  have j5 := m1 5
  simp only [List.getElem?_toArray, List.getElem?_cons_zero, List.getElem?_cons_succ] at j0 j1 j5
  have HKEEP : Hid (∀ W, Below W1.heap.size W1 W → Below w.heap.size w W) := fun W h => hW.trans (h.mono hW.size)
  have HU : Hid (∀ W, Below W1.heap.size W1 W → Prs W acts (.slice p1 acts.length c1)) := fun W h => hu0.stays (keeps_of_below (HKEEP.out W h))
  have HFO : Hid (∀ W, Below W1.heap.size W1 W → Strs W (bFor b) (.slice po (bFor b).length co)) := fun W h => hfo.stays (keeps_of_below (HKEEP.out W h))
  have HCL := Lib.hid (cloneL_calls (bL b) _ W1 (hla.stays (keeps_of_below hW)) (by have := hrb.lab.2; omega))
  have HPF := Lib.hid hpf
  have HCF : Hid (∀ W, Below W1.heap.size W1 W → ∀ i (hi : i < (bFrom b).length), W.cell? ⟨bf, of_ + i, none⟩ = some (.int .i64 (bFrom b)[i])) := fun W h i hi => bkeptT h (bkeptT hW (hcellf i hi))
  have HP2 := Lib.hid hp2
  have HC2 : Hid (∀ W, Below W1.heap.size W1 W → ∀ i (hi : i < m.length), ∃ u, W.cell? ⟨b2, o2 + i, none⟩ = some u ∧ Lbl W1 m[i] u) := fun W h i hi => by
    obtain ⟨u, e1, e2⟩ := hcells2 i hi
    exact ⟨u, bkeptT h (bkeptT hW e1), e2.stays (keeps_of_below hW)⟩
  have HFR : Hid (∀ i (hi : i < (bFrom b).length), 0 ≤ (bFrom b)[i] ∧ (bFrom b)[i] < m.length) := fun i hi => hrb.from_ _ (List.getElem_mem hi)
  have HAL : Hid (∀ k, (allL m (bL b) ((bFrom b).take k)).length ≤ 80200) := fun k => by
    have h1 := all_len hlen (bL b) hrb.lab.2 ((bFrom b).take k)
    have h2 : ((bFrom b).take k).length ≤ 400 := Nat.le_trans (List.length_take_le' _ _) hrb.few
    omega
  have HLM : Hid (∀ x ∈ m, x.length ≤ 200) := hlen
  have HCALL : Hid (∀ W t, Below W1.heap.size W1 W → Lbl W (allL m (bL b) (bFrom b)) t → Calls Tryz.prog 17 #[.slice p1 acts.length c1, t, .slice po (bFor b).length co] W fun e w' => ∃ y, e = .returned y ∧ Lbl w' (lessL (mayB l acts) (allL m (bL b) (bFrom b)) (bFor b)) y ∧ Below W.heap.size W w') := fun W t h ht =>
    refLessR_calls hc (hrm.all hrb.lab.1 _) hrb.for_.2 _ _ _ W (HU.out W h) ht (HFO.out W h) (by have := HAL.out (bFrom b).length; rw [List.take_length] at this; omega)
  have H5 : Hid (∀ W, Below W1.heap.size W1 W → W.cell? ⟨w.heap.size, 0, none⟩ = some (.slice pf (bFrom b).length cf) ∧ W.cell? ⟨w.heap.size, 5, none⟩ = some (.slice po (bFor b).length co)) := fun W h => ⟨bkeptT h j0, bkeptT h j5⟩
  clear hu hu0 hm hb hfr hla hin hfo hpf hcellf hp2 hcells2 hW z1 m1 hc hrm hlen hrb j5
  go_enter Tryz.func57, Tryz.ntmps57
  go_wp2_with (fail)
  refine HCL.out.mono ?_
  rintro e w2 ⟨v2, d2, rfl, hd2, hrow2, hb2⟩
  have HD2 : Hid (d2.map Prod.fst = allL m (bL b) ((bFrom b).take 0)) := by rw [Hid, List.take_zero, allL_nil]; exact hd2
  have HROW2 := Lib.hid hrow2
  have HB2 := Lib.hid hb2
  obtain ⟨f0, f5⟩ := H5.out w2 hb2
  clear j0 j1 hd2 hrow2 hb2
  go_wp2
  go_loopw [7, 16] (fun y i ws => ∃ (k : Nat) (yv : Value) (wo : World) (d : List PolS), k ≤ (bFrom b).length ∧ i = .int .i64 k ∧ yv = y ∧ wo = ws ∧ Hid (Below W1.heap.size W1 wo) ∧ Hid (d.map Prod.fst = allL m (bL b) ((bFrom b).take k)) ∧ Hid (PolRow W1.heap.size wo yv d)) (fun _ i _ => (bFrom b).length - (intOf i).toNat)
  case atStart => exact ⟨0, _, _, d2, Nat.zero_le _, rfl, rfl, rfl, HB2, HD2, HROW2⟩
  case round =>
    clear f0 f5
    obtain ⟨k, yv, wo, d, hk, rfl, rfl, rfl, HB, HD, HROW⟩ := hrel
    obtain ⟨f0, f5⟩ := H5.out wo HB.out
    by_cases hlt : k < (bFrom b).length
    · have g0 := HCF.out wo HB.out k hlt
      obtain rfl := HPF.out (by omega)
      have hfk := HFR.out k hlt
      have HTK : Hid (allL m (bL b) ((bFrom b).take (k + 1)) = allL m (bL b) ((bFrom b).take k) ++ atL m (bFrom b)[k]) := allL_take hlt
      generalize (bFrom b)[k] = z at *
      obtain ⟨j, rfl⟩ : ∃ j : Nat, z = (j : Int) := ⟨z.toNat, by omega⟩
      have hj : j < m.length := by omega
      have hat : atL m (j : Int) = m[j] := by unfold atL; simp [hj]
      rw [hat] at HTK
      have HMJ : Hid (m[j].length ≤ 200) := HLM.out _ (List.getElem_mem hj)
      obtain ⟨uj, hcj, hlj⟩ := HC2.out wo HB.out j hj
      obtain rfl := HP2.out (by omega)
      generalize m[j] = xj at *
      obtain ⟨pj, cj, vs, rfl, hlcj, hcmj, hrj, hpj, hxj⟩ := SliceOf.rows (by decide) hlj
      obtain ⟨dj, e1, e2, e3⟩ := rows_pols hrj
      subst e2
      have hdl : dj.length = xj.length := by rw [← e1, List.length_map]
      have hvl := hrj.length
      have hpc := Rows.plain pol_plain hrj
      have hxj' : ∀ ad : Addr, pj = some ad → ∀ (i : Nat) (u : Value), (dj.flatMap pcells)[i]? = some u → wo.cell? (ad.add i) = some u := fun ad e i u hu => cell_keep (keeps_of_below HB.out) (hxj ad e i u hu)
      have hown := HROW.out.1
      have hdn : d.length ≤ 80200 := by have h := congrArg List.length HD.out; rw [List.length_map] at h; rw [h]; exact HAL.out k
      have hmj := HMJ.out
      have hbs := HB.out.size
      have HDJ := Lib.hid e1
      have HRJ : Hid (∀ y ∈ dj, Rob wo yv.ownBlock y) := fun y hy => rob_old (e3 y hy) HB.out (fun q hq => (HROW.out.1.lt q hq).1)
      have HDL := Lib.hid hdl
      clear e1 e3 hlj hrj hxj hfk hat hdl
      go_wp2_with (at_builtin; refine wpList_append_src_at _ rfl _ _ 25 rfl W1.heap.size 37 t1 (.agg #[.string ByteArray.empty, .slice none 0 0]) 2 40 Tryz.underlying25 hi' hz0' hz1' hz2' rfl (by decide) _ d.length (d.flatMap pcells) rfl hown pj xj.length cj (dj.flatMap pcells) rfl hvl hpj hxj' hpc ?c1 ?c2 hbs ?_)
      case c1 => unfold maxLen; omega
      case c2 => omega
      · intro v5 w5 hown5 hg5 hb5
        have HN : Hid (PolRow W1.heap.size w5 v5 (d ++ dj)) := HROW.out.more HRJ.out (by rw [HDL.out]; exact hown5) hg5 hb5
        have HDN : Hid ((d ++ dj).map Prod.fst = allL m (bL b) ((bFrom b).take (k + 1))) := by rw [Hid, List.map_append, HD.out, HDJ.out, HTK.out]
        have HBN : Hid (Below W1.heap.size W1 w5) := HB.out.grown hg5 hbs (fun q hq => (HROW.out.1.lt q hq).1)
        clear hown5 hg5 hb5 hown hvl hpc hxj' hpj
        go_wp2
        go_roundw
        case rel => exact ⟨k + 1, _, _, _, by omega, by go_num, rfl, rfl, HBN, HDN, HN⟩
        case measure => simp [intOf]; omega
    · have hl : Lbl wo (allL m (bL b) (bFrom b)) yv := by
        have h := HROW.out.lbl
        rw [HD.out, List.take_of_length_le (by omega)] at h
        exact h
      have HCA := Lib.hid (HCALL.out wo yv HB.out hl)
      clear hl
      go_wp2_with (fail)
      refine HCA.out.mono ?_
      rintro e w7 ⟨y, rfl, hy, hb7⟩
      have HY := Lib.hid hy
      have HBF := Lib.hid (HKEEP.out _ (HB.out.trans (hb7.mono HB.out.size)))
      clear hy hb7
      go_wp2
      go_ret
      exact ⟨_, rfl, HY.out, HBF.out⟩
set_option maxHeartbeats 8000000 in
set_option maxRecDepth 100000 in
theorem refBroken_calls (l : List Txt) (acts : List (Txt × Txt)) (m : List Lab) (bs : List Bnd) (u vm s : Value) (w : World) (hu : Prs w acts u) (hm : Labs w m vm) (hs : Bnds w bs s) (hc : checkC l acts = 0) (hrm : RightM l m.length m) (hlen : ∀ x ∈ m, x.length ≤ 200)
    (hB : ∀ b ∈ bs, RightB l m.length b) (hn : bs.length ≤ 400) :
    Calls Tryz.prog 28 #[u, vm, s] w fun e w' => ∃ y, e = .returned y ∧ Nums w' (brokenTo (mayB l acts) m bs bs.length) y ∧ Below w.heap.size w w' := by
  have hu0 := hu
  have hm0 := hm
  obtain ⟨b1, o1, c1, p1, rfl, _⟩ := hu.cells
  obtain ⟨b3, o3, c3, p3, rfl, hlc3, hcm3, hp3, hcells3⟩ := hm.cells
  obtain ⟨b2, o2, c2, p2, rfl, hlc2, hcm2, hp2, hcells2⟩ := hs.cells
  obtain ⟨t0, hi, hz0, hz1, hz2⟩ := info_parts info_intB
  have HU : Hid (∀ W, Below w.heap.size w W → Prs W acts (.slice p1 acts.length c1)) := fun W h => hu0.stays (keeps_of_below h)
  have HM : Hid (∀ W, Below w.heap.size w W → Labs W m (.slice p3 m.length c3)) := fun W h => hm0.stays (keeps_of_below h)
  have HCE := Lib.hid hcells2
  have HPP := Lib.hid hp2
  have HCL := Lib.hid hcells3
  have HP3 := Lib.hid hp3
  have HN10 : Hid (acts.length ≤ 10) := (checkC_zero hc).2.1
  have HC := Lib.hid hc
  have HRM := Lib.hid hrm
  have HFEW := Lib.hid hlen
  have HRB := Lib.hid hB
  have HN2 := Lib.hid hn
  clear hu hu0 hm hm0 hs hcells2 hp2 hcells3 hp3 hc hrm hlen hB hn
  go_enter Tryz.func28, Tryz.ntmps28
  go_wp2
  go_loopw [7, 13] (fun o i ws => ∃ (j : Nat) (wo' : World) (ov : Value), j ≤ bs.length ∧ i = .int .i64 j ∧ wo' = ws ∧ ov = o ∧ Hid (Below w.heap.size w wo') ∧ Hid (wo'.ownsRow w.heap.size 3 1 ov (brokenTo (mayB l acts) m bs j).length ((brokenTo (mayB l acts) m bs j).map (Value.int .i64)))) (fun _ i _ => bs.length - (intOf i).toNat)
  case atStart => exact ⟨0, _, _, Nat.zero_le _, rfl, rfl, rfl, Below.refl _ _, World.ownsRow_nil _ _ _ _⟩
  case round =>
    obtain ⟨j, wi, ov, hj, rfl, rfl, rfl, HBW, HOW⟩ := hrel
    by_cases hlj : j < bs.length
    · obtain ⟨x0, x1, x2, x3, x4, x5, his, e0, e1, e2, e3, e4, e5⟩ := HCE.out j hlj
      obtain rfl := HPP.out (by omega)
      have hbw := HBW.out
      have his' := his.stays (keeps_of_below hbw)
      have k0 : wi.cell? ⟨b2, o2 + j * 6, none⟩ = some x0 := (hbw.cell (cell_lt e0)).trans e0
      have k1 : wi.cell? ⟨b2, o2 + j * 6 + 1, none⟩ = some x1 := (hbw.cell (cell_lt e1)).trans e1
      have k2 : wi.cell? ⟨b2, o2 + j * 6 + 2, none⟩ = some x2 := (hbw.cell (cell_lt e2)).trans e2
      have k3 : wi.cell? ⟨b2, o2 + j * 6 + 3, none⟩ = some x3 := (hbw.cell (cell_lt e3)).trans e3
      have k4 : wi.cell? ⟨b2, o2 + j * 6 + 4, none⟩ = some x4 := (hbw.cell (cell_lt e4)).trans e4
      have k5 : wi.cell? ⟨b2, o2 + j * 6 + 5, none⟩ = some x5 := (hbw.cell (cell_lt e5)).trans e5
      clear his e0 e1 e2 e3 e4 e5
      have hrb := HRB.out _ (List.getElem_mem hlj)
      have hbrk : broke (mayB l acts) m bs[j] = !flowsB (actsF acts) (lessL (mayB l acts) (allL m (bL bs[j]) (bFrom bs[j])) (bFor bs[j])) (goalL m bs[j]) := by
        rw [broke_goal, ← brings_same HRM.out hrb.lab.1, flows_acts HC.out ((HRM.out.all hrb.lab.1 _).less _ _)]
        unfold goalL
        split
        · exact hrb.into.1
        · exact HRM.out.at _
      have HMISSX : Hid (flowsB (actsF acts) (lessL (mayB l acts) (allL m (bL bs[j]) (bFrom bs[j])) (bFor bs[j])) (goalL m bs[j]) = true → brokenTo (mayB l acts) m bs (j + 1) = brokenTo (mayB l acts) m bs j) := fun h => brokenTo_miss hlj (by rw [hbrk, h]; rfl)
      have HHITX : Hid (flowsB (actsF acts) (lessL (mayB l acts) (allL m (bL bs[j]) (bFrom bs[j])) (bFor bs[j])) (goalL m bs[j]) = false → brokenTo (mayB l acts) m bs (j + 1) = brokenTo (mayB l acts) m bs j ++ [(j : Int)]) := fun h => brokenTo_hit hlj (by rw [hbrk, h]; rfl)
      clear hbrk
      have hto := his'.to
      have hat := his'.at_
      subst hto hat
      generalize bs[j] = bj at *
      obtain ⟨bf, of_, cf, pf, rfl, _⟩ := his'.from_.cells
      obtain ⟨bl, ol, cl, pl, rfl, _⟩ := his'.lab.cells
      obtain ⟨bi, oi, ci, pi_, rfl, _⟩ := his'.into.cells
      obtain ⟨bo, oo, co, po, rfl, _⟩ := his'.for_.cells
      obtain ⟨W4, eW4⟩ : ∃ W4, wi.alloc (.cells #[.slice pf (bFrom bj).length cf, .slice pl (bL bj).length cl, .int .i64 (bTo bj), .slice pi_ (bInto bj).length ci, .int .i64 bj.2.2.2.2.1, .slice po (bFor bj).length co] 93) = W4 := ⟨_, rfl⟩
      obtain ⟨z4, hW4, m4⟩ := boxes1 eW4
      have j0 := m4 0
      have j1 := m4 1
      have j2 := m4 2
      have j3 := m4 3
      have j4 := m4 4
      have j5 := m4 5
      simp only [List.getElem?_toArray, List.getElem?_cons_zero, List.getElem?_cons_succ] at j0 j1 j2 j3 j4 j5
      have HW4 := Lib.hid hW4
      have HSZ : Hid (wi.heap.size ≤ W4.heap.size) := hW4.size
      have hb4 : Below w.heap.size w W4 := hbw.trans (hW4.mono hbw.size)
      have HBRG := Lib.hid (brings_calls l acts m bj _ _ _ _ _ _ W4 (HU.out W4 hb4) (HM.out W4 hb4) (his'.stays (keeps_of_below hW4)) HC.out HRM.out HFEW.out hrb)
      have HS6 : Hid (∀ x ∈ lessL (mayB l acts) (allL m (bL bj) (bFrom bj)) (bFor bj), x.2.length ≤ 6) := fun p hp => (((HRM.out.all hrb.lab.1 _).less (mayB l acts) (bFor bj)) p hp).1
      generalize lessL (mayB l acts) (allL m (bL bj) (bFrom bj)) (bFor bj) = S at *
      have hle := brokenTo_le (mayB l acts) m bs j
      have hn2 := HN2.out
      by_cases t1 : bTo bj < 0
      · have HZ : Hid (∀ W, Below W4.heap.size W4 W → Lbl W (goalL m bj) (.slice pi_ (bInto bj).length ci)) := fun W h => by
          have e : goalL m bj = bInto bj := by unfold goalL; rw [if_pos t1]
          rw [e]
          exact (his'.into.stays (keeps_of_below hW4)).stays (keeps_of_below h)
        have t1' : ¬ (0 : Int) ≤ bTo bj := by omega
        clear m4 z4 hW4 hb4 hrb his' hbw
        go_wp2_with (fail)
        refine HBRG.out.mono ?_
        rintro e w5 ⟨y, rfl, hy, hb5⟩
        obtain ⟨_, _, cy, py, rfl, _⟩ := hy.cells
        have HB5 := Lib.hid (HW4.out.trans (hb5.mono HSZ.out))
        have HMG := Lib.hid (refMay_calls acts S (goalL m bj) _ _ _ w5 (HU.out w5 (HBW.out.trans (HB5.out.mono HBW.out.size))) hy (HZ.out w5 hb5) HN10.out HS6.out)
        clear hy hb5
        cases hfl : flowsB (actsF acts) S (goalL m bj) with
        | true =>
          rw [hfl] at HMG
          have HMISS := Lib.hid (HMISSX.out hfl)
          clear hfl
          go_wp2_with (fail)
          refine HMG.out.mono ?_
          rintro e w6 ⟨rfl, hb6⟩
          have HB6 : Hid (Below wi.heap.size wi w6) := HB5.out.trans (hb6.mono HB5.out.size)
          clear hb6
          go_wp2
          go_roundw
          case rel =>
            refine ⟨j + 1, _, _, by omega, by go_num, rfl, rfl, HBW.out.trans (HB6.out.mono HBW.out.size), ?_⟩
            rw [HMISS.out]
            exact own_below HOW.out HB6.out
          case measure => simp [intOf]; omega
        | false =>
          rw [hfl] at HMG
          have HHIT := Lib.hid (HHITX.out hfl)
          clear hfl
          go_wp2_with (fail)
          refine HMG.out.mono ?_
          rintro e w6 ⟨rfl, hb6⟩
          have HB6 : Hid (Below wi.heap.size wi w6) := HB5.out.trans (hb6.mono HB5.out.size)
          have hown6 := own_below HOW.out HB6.out
          have HBO6 : Hid (Below w.heap.size w w6) := HBW.out.trans (HB6.out.mono HBW.out.size)
          have hsz6 := HBO6.out.size
          clear hb6
          go_wp2_with (at_builtin; refine wpList_append_own _ rfl _ _ 53 rfl w.heap.size 3 t0 (.int .i64 0) 1 8 Tryz.underlying53 hi hz0 hz1 hz2 rfl (by decide) _ _ _ rfl (hown6.alloc _) ⟨w6.heap.size, 0, none⟩ 1 1 [.int .i64 j] rfl rfl ?c1 ?c2 ?c3 ?c4 ?c5 ?_)
          case c1 =>
            intro i u hj
            match i, hj with
            | 0, hj => simp at hj; subst hj; simp [Addr.add]
          case c2 => intro u hu; simp at hu; subst hu; rfl
          case c3 => unfold maxLen; omega
          case c4 => omega
          case c5 => simp; omega
          · intro v7 w7 hown7 hg7 _
            have HB7 : Hid (Below w.heap.size w w7) := (HBO6.out.alloc HBO6.out.size _).grown hg7 (by simp; omega) (fun q hq => (HOW.out.lt q hq).1)
            have HO7 : Hid (w7.ownsRow w.heap.size 3 1 v7 (brokenTo (mayB l acts) m bs (j + 1)).length ((brokenTo (mayB l acts) m bs (j + 1)).map (Value.int .i64))) := by
              unfold Hid
              rw [HHIT.out, List.length_append, List.map_append]
              exact hown7
            clear hown7 hg7 hown6
            go_wp2
            go_roundw
            case rel => exact ⟨j + 1, _, _, by omega, by go_num, rfl, rfl, HB7, HO7⟩
            case measure => simp [intOf]; omega
      · obtain ⟨q, hq⟩ : ∃ q : Nat, bTo bj = (q : Int) := ⟨(bTo bj).toNat, by omega⟩
        have hql : q < m.length := by have := hrb.hi; omega
        obtain ⟨uq, hcq, hlq⟩ := HCL.out q hql
        obtain rfl := HP3.out (by omega)
        have hlq4 := hlq.stays (keeps_of_below hb4)
        obtain ⟨_, _, cq, pq, rfl, _⟩ := hlq4.cells
        have HZ : Hid (∀ W, Below W4.heap.size W4 W → Lbl W (goalL m bj) (.slice pq m[q].length cq)) := fun W h => by
          have e : goalL m bj = m[q] := by unfold goalL; rw [if_neg t1, hq]; unfold atL; simp [hql]
          rw [e]
          exact hlq4.stays (keeps_of_below h)
        have c4 : W4.cell? ⟨b3, o3 + q, none⟩ = some (.slice pq m[q].length cq) := (hb4.cell (cell_lt hcq)).trans hcq
        have hqi : (q : Int) < (m.length : Int) := by omega
        have t1' : (0 : Int) ≤ bTo bj := by omega
        rw [hq] at eW4 j2 k2 HBRG t1'
        clear m4 z4 hW4 hb4 hrb his' hbw hlq4 hlq hcq
        go_wp2_with (fail)
        refine HBRG.out.mono ?_
        rintro e w5 ⟨y, rfl, hy, hb5⟩
        obtain ⟨_, _, cy, py, rfl, _⟩ := hy.cells
        have HB5 := Lib.hid (HW4.out.trans (hb5.mono HSZ.out))
        have HMG := Lib.hid (refMay_calls acts S (goalL m bj) _ _ _ w5 (HU.out w5 (HBW.out.trans (HB5.out.mono HBW.out.size))) hy (HZ.out w5 hb5) HN10.out HS6.out)
        clear hy hb5
        cases hfl : flowsB (actsF acts) S (goalL m bj) with
        | true =>
          rw [hfl] at HMG
          have HMISS := Lib.hid (HMISSX.out hfl)
          clear hfl
          go_wp2_with (fail)
          refine HMG.out.mono ?_
          rintro e w6 ⟨rfl, hb6⟩
          have HB6 : Hid (Below wi.heap.size wi w6) := HB5.out.trans (hb6.mono HB5.out.size)
          clear hb6
          go_wp2
          go_roundw
          case rel =>
            refine ⟨j + 1, _, _, by omega, by go_num, rfl, rfl, HBW.out.trans (HB6.out.mono HBW.out.size), ?_⟩
            rw [HMISS.out]
            exact own_below HOW.out HB6.out
          case measure => simp [intOf]; omega
        | false =>
          rw [hfl] at HMG
          have HHIT := Lib.hid (HHITX.out hfl)
          clear hfl
          go_wp2_with (fail)
          refine HMG.out.mono ?_
          rintro e w6 ⟨rfl, hb6⟩
          have HB6 : Hid (Below wi.heap.size wi w6) := HB5.out.trans (hb6.mono HB5.out.size)
          have hown6 := own_below HOW.out HB6.out
          have HBO6 : Hid (Below w.heap.size w w6) := HBW.out.trans (HB6.out.mono HBW.out.size)
          have hsz6 := HBO6.out.size
          clear hb6
          go_wp2_with (at_builtin; refine wpList_append_own _ rfl _ _ 53 rfl w.heap.size 3 t0 (.int .i64 0) 1 8 Tryz.underlying53 hi hz0 hz1 hz2 rfl (by decide) _ _ _ rfl (hown6.alloc _) ⟨w6.heap.size, 0, none⟩ 1 1 [.int .i64 j] rfl rfl ?c1 ?c2 ?c3 ?c4 ?c5 ?_)
          case c1 =>
            intro i u hj
            match i, hj with
            | 0, hj => simp at hj; subst hj; simp [Addr.add]
          case c2 => intro u hu; simp at hu; subst hu; rfl
          case c3 => unfold maxLen; omega
          case c4 => omega
          case c5 => simp; omega
          · intro v7 w7 hown7 hg7 _
            have HB7 : Hid (Below w.heap.size w w7) := (HBO6.out.alloc HBO6.out.size _).grown hg7 (by simp; omega) (fun q hq => (HOW.out.lt q hq).1)
            have HO7 : Hid (w7.ownsRow w.heap.size 3 1 v7 (brokenTo (mayB l acts) m bs (j + 1)).length ((brokenTo (mayB l acts) m bs (j + 1)).map (Value.int .i64))) := by
              unfold Hid
              rw [HHIT.out, List.length_append, List.map_append]
              exact hown7
            clear hown7 hg7 hown6
            go_wp2
            go_roundw
            case rel => exact ⟨j + 1, _, _, by omega, by go_num, rfl, rfl, HB7, HO7⟩
            case measure => simp [intOf]; omega
    · obtain rfl : j = bs.length := by omega
      have HFI : Hid (Nums wi (brokenTo (mayB l acts) m bs bs.length) ov) := Nums.of_owns HOW.out
      go_wp2
      go_ret
      exact ⟨_, rfl, HFI.out, HBW.out⟩
end Go.Proofs.YtcgihpfanfbonaaGreatDoor
namespace Go.Proofs.YtcgihpfanfbonaaGreatDoor
open Go.RowKit
set_option linter.unusedVariables false
set_option linter.unusedSimpArgs false

set_option maxHeartbeats 400000 in
theorem equalI_calls (l m : List Int) (v u : Value) (w : World) (hv : Nums w l v) (hu : Nums w m u) :
    Calls Tryz.prog 27 #[v, u] w fun e w' => e = .returned (.bool (l == m)) ∧ ∃ n, w' = w.drewN n := by
  obtain ⟨b, o, c, p, rfl, hlc, hc, hp, hcells⟩ := One.cells hv
  obtain ⟨b2, o2, c2, p2, rfl, hlc2, hc2, hp2, hcells2⟩ := One.cells hu
  clear hv hu
  by_cases hn : l.length = m.length
  · have HN := Lib.hid hn
    have hn1 : ((l.length : Int) != (m.length : Int)) = false := by simp [hn]
    have hn2 : ((l.length : Int) == (m.length : Int)) = true := by simp [hn]
    clear hn
    go_enter Tryz.func27, Tryz.ntmps27
    go_wp2
    go_loopw [5, 13] (fun _ i wr => ∃ k : Nat, k ≤ l.length ∧ i = .int .i64 k ∧ (∃ n, wr = w.drewN n) ∧ Hid (∀ j (h1 : j < l.length) (h2 : j < m.length), j < k → (l[j] == m[j]) = true)) (fun _ i _ => l.length - (intOf i).toNat)
    case atStart => exact ⟨0, Nat.zero_le _, rfl, ⟨0, rfl⟩, fun j _ _ hj => absurd hj (Nat.not_lt_zero _)⟩
    case round =>
      obtain ⟨k, hk, rfl, ⟨n, rfl⟩, HE⟩ := hrel
      by_cases hlt : k < l.length
      · have hlt2 : k < m.length := by have := HN.out; omega
        have hcell := hcells k hlt
        have hcell2 := hcells2 k hlt2
        obtain rfl := hp (by omega)
        obtain rfl := hp2 (by omega)
        clear hp hp2 hcells hcells2
        cases he : l[k] == m[k] with
        | true =>
          have HX : Hid ((l[k] == m[k]) = true) := he
          have he' : (l[k] != m[k]) = false := by simpa using he
          go_wp2
          go_quiet (fail)
          go_wp2
          go_roundw
          case rel =>
            refine ⟨k + 1, by omega, by go_num, ⟨n + nq, rfl⟩, fun j h1 h2 hj => ?_⟩
            by_cases e : j = k
            · subst e; exact HX.out
            · exact HE.out j h1 h2 (by omega)
          case measure => simp [intOf]; omega
        | false =>
          have HX : Hid ((l == m) = false) := eq_at hlt hlt2 he
          have he' : (l[k] != m[k]) = true := by simpa using he
          go_wp2
          go_quiet (fail)
          go_wp2
          go_ret
          exact ⟨ret_bool HX.out.symm, ⟨n + nq, by first | rw [World.drewN_drewN] | rfl⟩⟩
      · have HX : Hid ((l == m) = true) := eq_all HN.out fun j h1 h2 => HE.out j h1 h2 (by omega)
        go_wp2
        go_ret
        exact ⟨ret_bool HX.out.symm, ⟨n, rfl⟩⟩
  · have HX : Hid ((l == m) = false) := eq_len hn
    have hn1 : ((l.length : Int) != (m.length : Int)) = true := by simp; omega
    have hn2 : ((l.length : Int) == (m.length : Int)) = false := by simp; omega
    clear hn
    go_enter Tryz.func27, Tryz.ntmps27
    go_wp2
    go_ret
    exact ⟨ret_bool HX.out.symm, ⟨0, rfl⟩⟩
end Go.Proofs.YtcgihpfanfbonaaGreatDoor
namespace Go.Proofs.YtcgihpfanfbonaaGreatDoor
open Go.RowKit Go.Maps
set_option linter.unusedVariables false
set_option linter.unusedSimpArgs false

def aTS : Txt := ⟨#[97]⟩
def bTS : Txt := ⟨#[98]⟩
def abLS : List Txt := [aTS, bTS]
theorem ab_okS : okList okTxt abLS := fun s hs => by simp [abLS] at hs; rcases hs with rfl | rfl <;> (unfold okTxt; decide)
theorem objT_atS (w : World) (l : List Txt) (e : TypeId) (n : Nat) (hn : w.heap.size = n) (hl : l.length ≤ 9223372036854775807) : Strs (w.alloc (.cells (l.map Value.string).toArray e)) l (.slice (some ⟨n, 0, none⟩) l.length l.length) := by
  subst hn; exact strs_new w l e hl

def onePol : Pol := (aTS, [])
def sBs : List Bnd := [([], [onePol], 0, [], 0, []), ([0], [], -1, [], 0, [])]
theorem norm_one (q : Txt → Txt → Bool) : normL q [onePol] = [onePol] := by
  have hp : plainP onePol = onePol := by
    unfold plainP onePol
    rw [plainR_self List.Pairwise.nil (by simp)]
  have ha : allOf [onePol] = [onePol] := allOf_self (List.pairwise_singleton _ _) fun p hp' => by
    rw [List.mem_singleton.1 hp']; exact hp
  unfold normL
  rw [ha]
  unfold normOf goneB
  simp
theorem into_0 (q : Txt → Txt → Bool) (m : List Lab) : intoL q m ([], [onePol], 0, [], 0, []) = [onePol] := by
  show normL q ([onePol].filter fun p => !leftOut q [] p) = _
  have : ([onePol].filter fun p => !leftOut q [] p) = [onePol] := by simp [leftOut, anyBy]
  rw [this]
  exact norm_one q
theorem solved_flows : flowsB (mayB abLS []) [onePol] [onePol] = true := by decide +kernel
theorem solved_flows0 (q : Txt → Txt → Bool) : flowsB q [onePol] [] = false := rfl
theorem solved_round1 : roundM (mayB abLS []) sBs [[]] = [[onePol]] := by
  have h0 : stepM (mayB abLS []) [[]] ([], [onePol], 0, [], 0, []) = [[onePol]] := by
    rw [stepM_raise (by decide) (by rw [into_0]; exact solved_flows0 _), into_0]
    show [joinL (mayB abLS []) [] [onePol]] = _
    unfold joinL
    rw [List.nil_append, norm_one]
  have h1 : ∀ m, stepM (mayB abLS []) m ([0], [], -1, [], 0, []) = m := fun m => stepM_holds (by unfold holdsB; rw [Bool.or_eq_true]; exact .inl (decide_eq_true (by show (-1 : Int) < 0; decide)))
  unfold roundM sBs
  rw [List.foldl_cons, List.foldl_cons, List.foldl_nil, h0, h1]
theorem solved_round2 : roundM (mayB abLS []) sBs [[onePol]] = [[onePol]] := by
  have h0 : stepM (mayB abLS []) [[onePol]] ([], [onePol], 0, [], 0, []) = [[onePol]] := stepM_holds (by
    unfold holdsB
    rw [into_0, Bool.or_eq_true]
    exact .inr solved_flows)
  have h1 : ∀ m, stepM (mayB abLS []) m ([0], [], -1, [], 0, []) = m := fun m => stepM_holds (by unfold holdsB; rw [Bool.or_eq_true]; exact .inl (decide_eq_true (by show (-1 : Int) < 0; decide)))
  unfold roundM sBs
  rw [List.foldl_cons, List.foldl_cons, List.foldl_nil, h0, h1]
theorem solved_is {m : List Lab} (h : SolvedM abLS [] 1 sBs m) : m = [[onePol]] := by
  obtain ⟨k, hk⟩ := h.iter
  have hit : ∀ j, itersM (mayB abLS []) sBs (j + 1) (List.replicate 1 []) = [[onePol]] := by
    intro j
    induction j with
    | zero => exact solved_round1
    | succ j ih =>
      show roundM _ _ (itersM _ _ (j + 1) _) = _
      rw [ih]; exact solved_round2
  cases k with
  | zero =>
    have hf := h.fix
    rw [hk] at hf
    have : roundM (mayB abLS []) sBs [[]] = [[]] := hf
    rw [solved_round1] at this
    cases this
  | succ k => rw [hk]; exact hit k
theorem solved_e : solveE abLS [] 1 sBs = 0 := by decide +kernel
theorem solved_brokenE : brokenE abLS [] [[onePol]] sBs = 0 := by decide +kernel
theorem solved_brokenR : brokenR abLS [] [[onePol]] sBs = [1] := by
  unfold brokenR
  rw [if_pos solved_brokenE]
  have h0 : brokenTo (mayB abLS []) [[onePol]] sBs 1 = brokenTo (mayB abLS []) [[onePol]] sBs 0 := brokenTo_miss (by decide) (by
    show (!flowsB _ (intoL _ _ ([], [onePol], 0, [], 0, [])) [onePol]) = false
    rw [into_0, solved_flows]; rfl)
  have h1 : brokenTo (mayB abLS []) [[onePol]] sBs 2 = brokenTo (mayB abLS []) [[onePol]] sBs 1 ++ [((1 : Nat) : Int)] := brokenTo_hit (by decide) (by
    show (!flowsB _ (intoL _ _ ([0], [], -1, [], 0, [])) []) = true
    have : intoL (mayB abLS []) [[onePol]] ([0], [], -1, [], 0, []) = [onePol] := by
      show normL _ ((joinL (mayB abLS []) [] [onePol]).filter fun p => !leftOut _ [] p) = _
      unfold joinL
      rw [List.nil_append, norm_one]
      have : ([onePol].filter fun p => !leftOut (mayB abLS []) [] p) = [onePol] := by simp [leftOut, anyBy]
      rw [this]
      exact norm_one _
    rw [this]; rfl)
  show brokenTo (mayB abLS []) [[onePol]] sBs 2 = _
  rw [h1, h0]; rfl
theorem one_lbl (W : World) : Lbl (W.alloc (.cells #[.string ⟨#[97]⟩, .slice none 0 0] 37)) [onePol] (.slice (some ⟨W.heap.size, 0, none⟩) 1 1) := by
  refine ⟨_, _, rfl, by decide, by unfold maxLen; decide, Or.inr ⟨_, 0, rfl, fun i hi => ?_⟩⟩
  match i, hi with
  | 0, _ =>
    refine ⟨[.string aTS, .slice none 0 0], ⟨[.string aTS], _, rfl, rfl, ⟨_, rfl, nil_readsS _ _ _⟩⟩, rfl, fun j x hx => ?_⟩
    match j, hx with
    | 0, hx => simp at hx; subst hx; rw [alloc_cell_new _ _ _ _ _ rfl]; rfl
    | 1, hx => simp at hx; subst hx; rw [alloc_cell_new _ _ _ _ _ rfl]; rfl
theorem one_num (W : World) (k : Int) : Nums (W.alloc (.cells #[.int .i64 k] 3)) [k] (.slice (some ⟨W.heap.size, 0, none⟩) 1 1) := by
  refine ⟨_, _, rfl, by simp, by unfold maxLen; decide, Or.inr ⟨_, 0, rfl, fun i hi => ?_⟩⟩
  match i, hi with
  | 0, _ =>
    refine ⟨[.int .i64 k], rfl, rfl, fun j x hx => ?_⟩
    match j, hx with
    | 0, hx => simp at hx; subst hx; rw [alloc_cell_new _ _ _ _ _ rfl]; rfl
theorem one_ok : okLab [onePol] := fun p hp => by
  rw [List.mem_singleton.1 hp]
  exact ⟨by show (1 : Nat) ≤ _; decide, fun s hs => by cases hs⟩
theorem sBs_ok : okList okBnd sBs := fun b hb => by
  simp only [sBs, List.mem_cons, List.not_mem_nil, or_false] at hb
  rcases hb with rfl | rfl
  · exact ⟨fun x hx => (by cases hx), one_ok, ⟨by decide, by decide⟩, fun x hx => (by cases hx), ⟨by decide, by decide⟩, fun x hx => by cases hx⟩
  · exact ⟨fun x hx => (by rw [List.mem_singleton.1 hx]; exact ⟨by decide, by decide⟩), fun x hx => (by cases hx), ⟨by decide, by decide⟩, fun x hx => (by cases hx), ⟨by decide, by decide⟩, fun x hx => by cases hx⟩

set_option maxHeartbeats 4000000 in
set_option maxRecDepth 100000 in
theorem solved_calls (w : World) : Calls Tryz.prog 20 #[] w fun e w' => e = .returned (.bool true) ∧ Below w.heap.size w w' := by
  have hS1 := objT_atS w abLS 9 _ rfl (by decide)
  have hL1 := one_lbl (w.alloc (.cells #[.string ⟨#[97]⟩, .string ⟨#[98]⟩] 9))
  obtain ⟨W2, eW2⟩ : ∃ W2, (w.alloc (.cells #[.string ⟨#[97]⟩, .string ⟨#[98]⟩] 9)).alloc (.cells #[.string ⟨#[97]⟩, .slice none 0 0] 37) = W2 := ⟨_, rfl⟩
  obtain ⟨z2, hW2, _, _⟩ := boxes2 eW2
  rw [eW2] at hL1
  have hS2 : Strs W2 abLS (.slice (some ⟨w.heap.size, 0, none⟩) 2 2) := by
    have h := hS1.stays (keeps_of_below ((Below.refl _ _).alloc (Nat.le_refl _) (.cells #[.string ⟨#[97]⟩, .slice none 0 0] 37)))
    rw [← eW2]; exact h
  have hL2 : Lbl W2 [onePol] (.slice (some ⟨w.heap.size + 1, 0, none⟩) 1 1) := by simpa using hL1
  have hN1 := one_num W2 0
  obtain ⟨W4, eW4⟩ : ∃ W4, (W2.alloc (.cells #[.int .i64 0] 3)).alloc (.cells #[.slice none 0 0, .slice (some ⟨w.heap.size + 1, 0, none⟩) 1 1, .int .i64 0, .slice none 0 0, .int .i64 0, .slice none 0 0, .slice (some ⟨W2.heap.size, 0, none⟩) 1 1, .slice none 0 0, .int .i64 (-1), .slice none 0 0, .int .i64 0, .slice none 0 0] 93) = W4 := ⟨_, rfl⟩
  obtain ⟨z4, hW4, _, m4⟩ := boxes2 eW4
  have hN2 : Nums W4 [0] (.slice (some ⟨W2.heap.size, 0, none⟩) 1 1) := by
    have h := hN1.stays (keeps_of_below ((Below.refl _ _).alloc (Nat.le_refl _) (.cells #[.slice none 0 0, .slice (some ⟨w.heap.size + 1, 0, none⟩) 1 1, .int .i64 0, .slice none 0 0, .int .i64 0, .slice none 0 0, .slice (some ⟨W2.heap.size, 0, none⟩) 1 1, .slice none 0 0, .int .i64 (-1), .slice none 0 0, .int .i64 0, .slice none 0 0] 93)))
    rw [← eW4]; exact h
  have hS4 := hS2.stays (keeps_of_below hW4)
  have hL4 := hL2.stays (keeps_of_below hW4)
  have hB : Bnds W4 sBs (.slice (some ⟨W2.heap.size + 1, 0, none⟩) 2 2) := by
    refine ⟨_, _, rfl, by decide, by unfold maxLen; decide, Or.inr ⟨_, 0, rfl, fun i hi => ?_⟩⟩
    match i, hi with
    | 0, _ =>
      refine ⟨[.slice none 0 0, .slice (some ⟨w.heap.size + 1, 0, none⟩) 1 1, .int .i64 0, .slice none 0 0, .int .i64 0, .slice none 0 0],
        ⟨[_], _, rfl, ⟨_, rfl, nil_readsS _ _ _⟩, [_], _, rfl, ⟨_, rfl, hL4⟩, [_], _, rfl, rfl, [_], _, rfl, ⟨_, rfl, nil_readsS _ _ _⟩, [_], _, rfl, rfl, ⟨_, rfl, nil_readsS _ _ _⟩⟩, rfl, fun j x hx => ?_⟩
      match j, hx with
      | 0, hx | 1, hx | 2, hx | 3, hx | 4, hx | 5, hx => simp at hx; subst hx; rw [m4]; rfl
    | 1, _ =>
      refine ⟨[.slice (some ⟨W2.heap.size, 0, none⟩) 1 1, .slice none 0 0, .int .i64 (-1), .slice none 0 0, .int .i64 0, .slice none 0 0],
        ⟨[_], _, rfl, ⟨_, rfl, hN2⟩, [_], _, rfl, ⟨_, rfl, nil_readsS _ _ _⟩, [_], _, rfl, rfl, [_], _, rfl, ⟨_, rfl, nil_readsS _ _ _⟩, [_], _, rfl, rfl, ⟨_, rfl, nil_readsS _ _ _⟩⟩, rfl, fun j x hx => ?_⟩
      match j, hx with
      | 0, hx | 1, hx | 2, hx | 3, hx | 4, hx | 5, hx => simp at hx; subst hx; rw [m4]; rfl
  have HW : Hid (Below w.heap.size w W4) := hW2.trans (hW4.mono hW2.size)
  have HS4 := Lib.hid hS4
  have HBN := Lib.hid hB
  have HLC := Lib.hid (least_calls abLS [] 1 sBs _ _ _ W4 hS4 (nil_readsS _ _ _) hB ab_okS sBs_ok)
  clear hS1 hL1 z2 hW2 hS2 hL2 hN1 z4 hW4 m4 hN2 hS4 hL4 hB
  go_enter Tryz.func20, Tryz.ntmps20
  go_wp2_with (fail)
  refine HLC.out.mono ?_
  rintro e w5 ⟨y, m, rfl, hy, hok, _, hso, hb5⟩
  obtain rfl := solved_is (hso solved_e)
  rw [solved_e]
  obtain ⟨by_, oy, cy, py, rfl, _, _, hpy, hcy⟩ := hy.cells
  obtain rfl := hpy (by decide)
  obtain ⟨ux, gx, hux⟩ := hcy 0 (by decide)
  have e3 : ([[onePol]] : List Lab).length = 1 := rfl
  rw [e3] at hy ⊢
  have HY := Lib.hid hy
  have HUX : Hid (Lbl w5 [onePol] ux) := hux
  have HGX : Hid (w5.cell? ⟨by_, oy, none⟩ = some ux) := gx
  have HB5 := Lib.hid hb5
  have HBC := Lib.hid (broken_calls abLS [] [[onePol]] sBs _ _ _ _ w5 (HS4.out.stays (keeps_of_below hb5)) (nil_readsS _ _ _) hy (HBN.out.stays (keeps_of_below hb5)) ab_okS hok sBs_ok)
  clear hy hok hso hb5 hpy hcy gx hux e3 HLC
  go_wp2_with (fail)
  refine HBC.out.mono ?_
  rintro e w6 ⟨z, rfl, hz, hb6⟩
  rw [solved_brokenE]
  rw [solved_brokenR] at hz
  have HZ := Lib.hid hz
  obtain ⟨bz, oz, cz, pz, rfl, _, _, hpz, _⟩ := hz.cells
  obtain rfl := hpz (by decide)
  clear hpz
  have e4 : ([1] : List Int).length = 1 := rfl
  rw [e4] at hz HZ ⊢
  have gx6 : w6.cell? ⟨by_, oy, none⟩ = some ux := (hb6.cell (cell_lt HGX.out)).trans HGX.out
  have HUX6 := Lib.hid (HUX.out.stays (keeps_of_below hb6))
  have hux6 := HUX6.out
  obtain ⟨bx, ox, cx, px, rfl, _, _, hpx, _⟩ := hux6.cells
  obtain rfl := hpx (by decide)
  have e6 : ([onePol] : Lab).length = 1 := rfl
  rw [e6] at HUX6 gx6
  clear hux6 hpx e6
  have HB6 : Hid (Below w.heap.size w w6) := HW.out.trans ((HB5.out.trans (hb6.mono HB5.out.size)).mono HW.out.size)
  clear hz hb6 e4 HBC
  go_wp2_with (fail)
  have hb7 : Below w6.heap.size w6 (w6.alloc (.cells #[.string ⟨#[97]⟩, .slice none 0 0] 37)) := (Below.refl _ _).alloc (Nat.le_refl _) _
  refine (sameLabel_calls [onePol] _ _ _ (HUX6.out.stays (keeps_of_below hb7)) (one_lbl w6)).mono ?_
  rintro e w8 ⟨rfl, hb8⟩
  have hb68 : Below w6.heap.size w6 w8 := hb7.trans (hb8.mono hb7.size)
  have HB8 : Hid (Below w.heap.size w w8) := HB6.out.trans (hb68.mono HB6.out.size)
  have HZ8 := Lib.hid (HZ.out.stays (keeps_of_below hb68))
  clear hb7 hb8 hb68 gx6
  go_wp2_with (fail)
  have hb9 : Below w8.heap.size w8 (w8.alloc (.cells #[.int .i64 1] 3)) := (Below.refl _ _).alloc (Nat.le_refl _) _
  refine (equalI_calls [1] [1] _ _ _ (HZ8.out.stays (keeps_of_below hb9)) (one_num w8 1)).mono ?_
  rintro e w10 ⟨rfl, n, rfl⟩
  have e5 : (([1] : List Int) == [1]) = true := rfl
  rw [e5]
  have HEND : Hid (Below w.heap.size w ((w8.alloc (.cells #[.int .i64 1] 3)).drewN n)) := below_drewN (HB8.out.alloc HB8.out.size _) n
  clear hb9
  go_wp2
  go_ret
  exact ⟨rfl, HEND.out⟩
end Go.Proofs.YtcgihpfanfbonaaGreatDoor
