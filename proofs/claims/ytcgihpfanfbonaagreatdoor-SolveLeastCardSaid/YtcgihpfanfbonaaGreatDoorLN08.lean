/-
  label.who.normal: a label's normal form.
-/
import Derived.Test.YtcgihpfanfbonaaGreatDoorLN07
import Derived.Test.YtcgihpfanfbonaaGreatDoorLN03
import Derived.Test.YtcgihpfanfbonaaGreatDoorLN04
import Derived.Maps.AppendAt
namespace Go.Proofs.YtcgihpfanfbonaaGreatDoor
open Go.RowKit Go.Sort Go.Maps
set_option linter.unusedVariables false
set_option linter.unusedSimpArgs false

theorem Tryz.info_policy : (Tryz.prog.info? 37).map (fun i => (i.zero, i.size, i.bytes)) = some (some (.agg #[.string ByteArray.empty, .slice none 0 0]), 2, 40) := by kernel_rfl

theorem insNil_calls (c fn : Nat) (w : World) (a : Option Addr) : Calls Tryz.prog 129 #[.slice a 0 c, .int .i64 0, .int .i64 0, .func (.func fn) #[] #[]] w fun e w' => e = .returned (.tuple #[]) ∧ w = w' := by
  go_enter Tryz.func129, Tryz.ntmps129
  go_wp2
  go_loop [8] (fun i => i = .int .i64 1) (fun _ => 0)
  case atStart => rfl
  case round =>
    subst hrel
    go_wp2
    go_end0
    exact ⟨rfl, rfl⟩
theorem pdqNil_calls (c fn : Nat) (w : World) (a : Option Addr) : Calls Tryz.prog 93 #[.slice a 0 c, .int .i64 0, .int .i64 0, .int .i64 0, .func (.func fn) #[] #[]] w fun e w' => e = .returned (.tuple #[]) ∧ w = w' := by
  go_enter Tryz.func93, Tryz.ntmps93
  go_wp2
  go_loop [1, 2, 3] (fun x y z => x = .int .i64 0 ∧ y = .int .i64 0 ∧ z = .int .i64 0) (fun _ _ _ => 0)
  case atStart => exact ⟨rfl, rfl, rfl⟩
  case round =>
    obtain ⟨rfl, rfl, rfl⟩ := hrel
    go_wp2_with (fail)
    refine (insNil_calls c fn w a).mono ?_
    rintro e w2 ⟨rfl, rfl⟩
    go_wp2
    refine bodyPost_ret (results_none rfl _ _ _) rfl ?_
    exact ⟨rfl, rfl⟩
/-- slices.SortFunc at no policy. -/
theorem sortNil_calls (c fn : Nat) (w : World) (a : Option Addr) : Calls Tryz.prog 62 #[.slice a 0 c, .func (.func fn) #[] #[]] w fun e w' => e = .returned (.tuple #[]) ∧ w = w' := by
  have hb := Tryz.bits_Len 0 w (by omega) (by omega)
  have hb0 : (Lib.bitLen (Int.toNat 0) : Int) = 0 := by decide +kernel
  rw [hb0] at hb
  have HB := Lib.hid hb
  have hw : IntKind.u64.wrap (0 : Int) = 0 := by decide +kernel
  clear hb hb0
  go_enter Tryz.func62, Tryz.ntmps62
  go_wp2_with (fail)
  refine HB.out.mono ?_
  rintro e w1 ⟨rfl, rfl⟩
  go_wp2_with (fail)
  refine (pdqNil_calls c fn _ a).mono ?_
  rintro e w2 ⟨rfl, rfl⟩
  go_wp2
  go_end0
  exact ⟨rfl, rfl⟩
/-- slices.CompactFunc at no policy. -/
theorem compactNil_calls (c fn : Nat) (w : World) (a : Option Addr) : Calls Tryz.prog 64 #[.slice a 0 c, .func (.func fn) #[] #[]] w fun e w' => e = .returned (.slice a 0 c) ∧ w = w' := by
  go_enter Tryz.func64, Tryz.ntmps64
  go_wp2
  go_ret
  exact ⟨rfl, rfl⟩

theorem Own.rob {N : Nat} {w : World} {l : List Txt} {v : Value} {M : Option Nat} {p : Pol} (h : Own N w l v) (hM : ∀ k, M = some k → k < N) (e : p.2 = l) : Rob w M (p, v) := fun W hW => by
  subst e
  exact (h.stays hW hM).strs
theorem grown_alloc (w : World) (y : Obj) (M : Option Nat) : w.grownBy (w.alloc y) M :=
  have hb := (Below.refl w.heap.size w).alloc (Nat.le_refl _) y
  ⟨hb.os, hb.tape, hb.output, hb.size, fun q hq _ => hb.block q hq⟩
theorem PolRow.snoc {base : Nat} {w w9 : World} {v v9 : Value} {d : List PolS} {x : PolS} (h : ∀ y ∈ d, Rob w v.ownBlock y) (hx : Rob w v.ownBlock x) (hown : w9.ownsRow base 37 2 v9 (d.length + 1) (d.flatMap pcells ++ pcells x)) (hg : w.grownBy w9 v.ownBlock)
    (hb : v9.ownBlock = v.ownBlock ∨ v9.ownBlock = some w.heap.size) : PolRow base w9 v9 (d ++ [x]) := by
  refine ⟨by simpa using hown, fun y hy => ?_⟩
  have hy' : Rob w v.ownBlock y := by
    rcases List.mem_append.1 hy with hy | hy
    · exact h y hy
    · rw [List.mem_singleton.1 hy]; exact hx
  rcases hb with e | e
  · rw [e]; exact hy'.grown hg
  · rw [e]; exact hy'.fresh hg (Nat.le_refl _)

theorem sortAny_calls (base : Nat) (v : Value) (d : List PolS) (w : World) (h : PolRow base w v d) (hsz : d.length < 4611686018427387904) :
    Calls Tryz.prog 62 #[v, .func (.func 63) #[] #[]] w fun e w' => e = .returned (.tuple #[]) ∧
      ∃ d', d'.Perm d ∧ d'.Pairwise (fun x y => cmpPol x.1 y.1 ≤ 0) ∧ PolRow base w' v d' ∧ w.grownBy w' v.ownBlock := by
  by_cases h0 : 0 < d.length
  · exact sortPol_calls base v d w h h0 hsz
  · obtain rfl : d = [] := List.eq_nil_of_length_eq_zero (by omega)
    have hv : ∃ a c, v = .slice a 0 c := by
      rcases h.1.2 with ⟨rfl, _⟩ | ⟨g, cap, cur, rfl, _⟩
      · exact ⟨_, _, rfl⟩
      · exact ⟨_, _, rfl⟩
    obtain ⟨a, c, rfl⟩ := hv
    refine (sortNil_calls c 63 w a).mono ?_
    rintro e w' ⟨rfl, rfl⟩
    exact ⟨rfl, [], List.Perm.refl _, List.Pairwise.nil, h, World.grownBy.refl w _⟩
theorem compactAny_calls (base : Nat) (v : Value) (d : List PolS) (w : World) (h : PolRow base w v d) (hsz : d.length ≤ 1048576) :
    Calls Tryz.prog 64 #[v, .func (.func 65) #[] #[]] w fun e w' => ∃ v', e = .returned v' ∧
      Lbl w' (dedup (d.map Prod.fst)) v' ∧ w.grownBy w' v.ownBlock := by
  by_cases h0 : 0 < d.length
  · exact compactPol_calls base v d w h h0 hsz
  · obtain rfl : d = [] := List.eq_nil_of_length_eq_zero (by omega)
    have hv : ∃ a c, v = .slice a 0 c ∧ c ≤ maxLen := by
      rcases h.1.2 with ⟨rfl, _⟩ | ⟨g, cap, cur, rfl, _, _, _, q2, _⟩
      · exact ⟨_, _, rfl, by unfold maxLen; omega⟩
      · exact ⟨_, _, rfl, q2⟩
    obtain ⟨a, c, rfl, hc⟩ := hv
    refine (compactNil_calls c 65 w a).mono ?_
    rintro e w' ⟨rfl, rfl⟩
    exact ⟨_, rfl, ⟨a, c, rfl, Nat.zero_le _, hc, .inl rfl⟩, World.grownBy.refl w _⟩

set_option maxHeartbeats 8000000 in
set_option maxRecDepth 100000 in
/-- From sorted policies, each once, on: what stays. -/
theorem wnormal_calls (q : Txt → Txt → Bool) (vc : Value) (r : Nat) (l : Lab) (vl : Value) (w : World) (hp : PairsAt w r q) (hlo : okLab l) (hl : Lbl w l vl) (hn : l.length ≤ 1000) (hr : ∀ p ∈ l, p.2.length ≤ 1048576) :
    Calls Tryz.prog 31 #[.agg #[vc, .map (some r)], vl] w fun e w' => ∃ v', e = .returned v' ∧ Lbl w' (normL q l) v' ∧ Below w.heap.size w w' := by
  obtain ⟨b, o, c, p, rfl, hlc, hcm, hpp, hcells⟩ := hl.cells
  obtain ⟨t0, hi, hz0, hz1, hz2⟩ := info_parts Tryz.info_policy
  obtain ⟨W1, eW⟩ : ∃ W1, w.alloc (.cells #[vc, .map (some r)] 62) = W1 := ⟨_, rfl⟩
  obtain ⟨z1, hW, m1⟩ := boxes1 eW
  have hc0 := m1 0
  have hc1 := m1 1
  simp only [List.getElem?_toArray, List.getElem?_cons_zero, List.getElem?_cons_succ] at hc0 hc1
  have HW := Lib.hid hW
  have HP := Lib.hid (hp.below hW)
  have HZ := Lib.hid z1
  have HC0 := Lib.hid hc0
  have HC1 := Lib.hid hc1
  have HR := Lib.hid hr
  have HLO := Lib.hid hlo
  have HN := Lib.hid hn
  have HCE := Lib.hid hcells
  have HPP := Lib.hid hpp
  have hpl : Hid ((l.take 0).map plainP = []) := by unfold Hid; simp
  clear m1 hW z1 hp hc0 hc1 hr hlo hl hcells hpp
  go_enter Tryz.func31, Tryz.ntmps31
  go_wp2
  go_loopw [5, 7, 16] (fun a _ i wr => ∃ (k : Nat) (av : Value), k ≤ l.length ∧ i = .int .i64 k ∧ av = a ∧ Below W1.heap.size W1 wr ∧ ∃ d : List PolS, Hid (d.map Prod.fst = (l.take k).map plainP) ∧ Hid (PolRow W1.heap.size wr av d)) (fun _ _ i _ => l.length - (intOf i).toNat)
  case atStart => exact ⟨0, _, Nat.zero_le _, rfl, rfl, Below.refl _ _, [], rfl, World.ownsRow_nil _ _ _ _, fun x hx => by cases hx⟩
  case round =>
    obtain ⟨k, av, hk, rfl, rfl, hbr, d, HD, HRW⟩ := hrel
    by_cases hlt : k < l.length
    · obtain ⟨u, g0, g1, hu⟩ := HCE.out k hlt
      obtain rfl := HPP.out (by omega)
      have hbw : Below w.heap.size w wr := HW.out.trans (hbr.mono HW.out.size)
      have g0' : wr.cell? ⟨b, o + k * 2, none⟩ = some (.string l[k].1) := (hbw.cell (cell_lt g0)).trans g0
      have g1' : wr.cell? ⟨b, o + k * 2 + 1, none⟩ = some u := (hbw.cell (cell_lt g1)).trans g1
      have hu' := hu.stays (keeps_of_below hbw)
      obtain ⟨bu, ou, cu, pu, rfl, _⟩ := hu'.cells
      obtain ⟨W4, eW4⟩ : ∃ W4, wr.alloc (.cells #[.string l[k].1, .slice pu l[k].2.length cu] 37) = W4 := ⟨_, rfl⟩
      obtain ⟨z4, hW4, m4⟩ := boxes1 eW4
      have h40 := m4 0
      have h41 := m4 1
      simp only [List.getElem?_toArray, List.getElem?_cons_zero, List.getElem?_cons_succ] at h40 h41
      have HPL := Lib.hid (plain_calls l[k] _ W4 (hu'.stays (keeps_of_below hW4)) (HR.out _ (List.getElem_mem hlt)))
      have HB4 := Lib.hid (hbr.trans (hW4.mono hbr.size))
      have HB14 := Lib.hid hW4
      have hdl : d.length = k := by have := congrArg List.length HD.out; simp at this; omega
      have HSZ : Hid (wr.heap.size ≤ W4.heap.size) := by unfold Hid; omega
      clear m4 hW4 z4 hu hu' g0 g1 hbw
      go_wp2_with (fail)
      refine HPL.out.mono ?_
      rintro e w5 ⟨v', rfl, hown5, hb5⟩
      have hbr5 : Below wr.heap.size wr w5 := HB14.out.trans (hb5.mono HB14.out.size)
      have HB5 := Lib.hid (HB4.out.trans (hb5.mono HB4.out.size))
      have hbs5 := HB5.out.size
      have hlt5 : ∀ q, av.ownBlock = some q → W1.heap.size ≤ q ∧ q < wr.heap.size := fun q hq => (HRW.out.1.lt q hq)
      have HLT := Lib.hid hlt5
      have hOW5 := own_below HRW.out.1 hbr5
      obtain ⟨pv, cv, rfl, _, _, _⟩ := id hown5
      have HRX : Hid (∀ y, Rob (w5.alloc y) av.ownBlock (plainP l[k], .slice pv (plainR l[k].1 l[k].2).length cv)) := fun y =>
        ((hown5.rob (p := plainP l[k]) (fun q hq => by have := (HLT.out q hq).2; have := HSZ.out; omega) rfl)).grown (grown_alloc _ _ _)
      have HRD : Hid (∀ y, ∀ x ∈ d, Rob (w5.alloc y) av.ownBlock x) := fun y x hx =>
        (HRW.out.2 x hx).grown (grown_below ⟨hbr5.os, hbr5.tape, hbr5.output, hbr5.size, fun q hq _ => hbr5.block q hq⟩ ((Below.refl _ _).alloc (Nat.le_refl _) y))
      clear hown5 hb5 hbr5 hlt5
      go_wp2_with (at_builtin; refine wpList_append_own_at _ rfl _ _ 25 rfl W1.heap.size 37 t0 (.agg #[.string ByteArray.empty, .slice none 0 0]) 2 40 Tryz.underlying25 hi hz0 hz1 hz2 rfl (by decide) _ d.length (d.flatMap pcells) rfl (hOW5.alloc _) ⟨w5.heap.size, 0, none⟩ 1 1 [.string l[k].1, .slice pv (plainR l[k].1 l[k].2).length cv] rfl rfl ?c1 ?c2 ?c3 ?c4 ?c5 ?_)
      case c1 =>
        intro j u hj
        match j, hj with
        | 0, hj => simp at hj; subst hj; simp [Addr.add]
        | 1, hj => simp at hj; subst hj; simp [Addr.add]
      case c2 => intro u hu; simp at hu; rcases hu with rfl | rfl <;> rfl
      case c3 => unfold maxLen; omega
      case c4 => omega
      case c5 => simp; omega
      · intro v6 w6 hown6 hg6 _ hb6
        have HNX : Hid (PolRow W1.heap.size w6 v6 (d ++ [(plainP l[k], .slice pv (plainR l[k].1 l[k].2).length cv)])) := PolRow.snoc (HRD.out _) (HRX.out _) (by rw [hdl]; exact hown6) hg6 (hb6.imp id fun h => by rw [h]; simp)
        have HBN : Hid (Below W1.heap.size W1 w6) := (HB5.out.alloc HB5.out.size _).grown hg6 (by have := HB5.out.size; simp; omega) (fun q hq => (HLT.out q hq).1)
        have HDN : Hid ((d ++ [(plainP l[k], (Value.slice pv (plainR l[k].1 l[k].2).length cv))]).map Prod.fst = (l.take (k + 1)).map plainP) := by
          unfold Hid
          rw [List.take_succ_eq_append_getElem hlt, List.map_append, List.map_append, HD.out]
          rfl
        go_wp2
        go_roundw
        case rel => exact ⟨k + 1, _, by omega, by go_num, rfl, HBN.out, _, HDN, HNX⟩
        case measure => simp [intOf]; omega
    · obtain rfl : k = l.length := by omega
      have hd : d.map Prod.fst = l.map plainP := by rw [HD.out, List.take_length]
      have hdl : d.length = l.length := by have := congrArg List.length hd; simpa using this
      have HS := Lib.hid (sortAny_calls W1.heap.size av d wr HRW.out (by have := HN.out; omega))
      have HLT : Hid (∀ q, av.ownBlock = some q → W1.heap.size ≤ q) := fun q hq => (HRW.out.1.lt q hq).1
      have HBR := Lib.hid hbr
      have HDD := Lib.hid hd
      have HDL := Lib.hid hdl
      clear hd hdl HRW HD hbr
      go_wp2_with (fail)
      refine HS.out.mono ?_
      rintro e w2 ⟨rfl, d', hperm, hsort, hrow2, hg2⟩
      have hlen2 : d'.length = l.length := hperm.length_eq.trans HDL.out
      have HC := Lib.hid (compactAny_calls W1.heap.size av d' w2 hrow2 (by have := HN.out; omega))
      have hX : dedup (d'.map Prod.fst) = allOf l := sorted_all (by rw [← HDD.out]; exact hperm.map _) (List.pairwise_map.2 hsort)
      rw [hX] at HC
      have HB2 : Hid (Below W1.heap.size W1 w2) := HBR.out.grown hg2 HBR.out.size HLT.out
      obtain ⟨X, hXe⟩ : ∃ X, allOf l = X := ⟨_, rfl⟩
      have HRI : Hid (Rising cmpPol X) := by unfold Hid; rw [← hXe]; exact allOf_rising l
      have HOK : Hid (okLab X) := by unfold Hid; rw [← hXe]; exact okLab_all HLO.out
      have hlx : X.length ≤ 1000 := by rw [← hXe]; have := allOf_le l; have := HN.out; omega
      have HNF : Hid (outTo q X X.length = normL q l) := by unfold Hid; rw [← hXe]; exact outTo_all q l
      rw [hXe] at HC
      clear hperm hsort hrow2 hg2 hlen2 hX hXe HS HPP HCE HR HLO
      go_wp2_with (fail)
      refine HC.out.mono ?_
      rintro e w3 ⟨v3, rfl, hl3, hg3⟩
      have HB3 : Hid (Below W1.heap.size W1 w3) := HB2.out.grown hg3 HB2.out.size HLT.out
      obtain ⟨b3, o3, c3, p3, rfl, hlc3, hcm3, hp3, hcells3⟩ := hl3.cells
      have HCE3 := Lib.hid hcells3
      have HPP3 := Lib.hid hp3
      clear hl3 hcells3 hp3 hg3 HC HB2 HDD HDL
      go_wp2
      go_loopw [8, 9, 10, 32] (fun y _ _ i ws => ∃ (k : Nat) (yv : Value) (wo : World), k ≤ X.length ∧ i = .int .i64 k ∧ yv = y ∧ wo = ws ∧ Below w3.heap.size w3 wo ∧ ∃ xs, Hid (wo.ownsRow w3.heap.size 37 2 yv (outTo q X k).length xs) ∧ Hid (Rows pol 2 w3 (outTo q X k) xs)) (fun _ _ _ i _ => X.length - (intOf i).toNat)
      case atStart => exact ⟨0, _, _, Nat.zero_le _, rfl, rfl, rfl, Below.refl _ _, [], World.ownsRow_nil _ _ _ _, rfl⟩
      case round =>
        clear HBR
        obtain ⟨k, yv, wo, hk, rfl, rfl, rfl, hbr, xs, HOWN, HROW⟩ := hrel
        by_cases hlt : k < X.length
        · obtain ⟨u, g0, g1, hu⟩ := HCE3.out k hlt
          obtain rfl := HPP3.out (by omega)
          have g0' : wo.cell? ⟨b3, o3 + k * 2, none⟩ = some (.string X[k].1) := (hbr.cell (cell_lt g0)).trans g0
          have g1' : wo.cell? ⟨b3, o3 + k * 2 + 1, none⟩ = some u := (hbr.cell (cell_lt g1)).trans g1
          obtain ⟨bu, ou, cu, pu, rfl, _⟩ := hu.cells
          have HUK := Lib.hid hu
          obtain ⟨W5, eW5⟩ : ∃ W5, wo.alloc (.cells #[.string X[k].1, .slice pu X[k].2.length cu] 37) = W5 := ⟨_, rfl⟩
          obtain ⟨z5, hW5, m5⟩ := boxes1 eW5
          have h50 := m5 0
          have h51 := m5 1
          simp only [List.getElem?_toArray, List.getElem?_cons_zero, List.getElem?_cons_succ] at h50 h51
          have HB5 : Hid (Below w3.heap.size w3 W5) := hbr.trans (hW5.mono hbr.size)
          have HB15 : Hid (Below W1.heap.size W1 W5) := HB3.out.trans (HB5.out.mono HB3.out.size)
          have HZ5 := Lib.hid z5
          have H50 := Lib.hid h50
          have H51 := Lib.hid h51
          have HBR := Lib.hid hbr
          have HW5 := Lib.hid hW5
          clear m5 hW5 z5 hu g0 g1 hbr h50 h51
          go_wp2
          go_loopw [11, 12, 13, 39] (fun g _ _ j ws => ∃ (m : Nat) (wr2 : World), m ≤ X.length ∧ j = .int .i64 m ∧ g = .bool (goneTo q X k m) ∧ wr2 = ws ∧ Below W5.heap.size W5 wr2) (fun _ _ _ j _ => X.length - (intOf j).toNat)
          case atStart => exact ⟨0, _, Nat.zero_le _, rfl, rfl, rfl, Below.refl _ _⟩
          case round =>
            clear g0' g1'
            obtain ⟨m, wr2, hm, rfl, rfl, rfl, hb'⟩ := hrel
            by_cases hmt : m < X.length
            · obtain ⟨um, e0, e1, hum⟩ := HCE3.out m hmt
              have hb3 : Below w3.heap.size w3 wr2 := HB5.out.trans (hb'.mono HB5.out.size)
              have e0' : wr2.cell? ⟨b3, o3 + m * 2, none⟩ = some (.string X[m].1) := (hb3.cell (cell_lt e0)).trans e0
              have e1' : wr2.cell? ⟨b3, o3 + m * 2 + 1, none⟩ = some um := (hb3.cell (cell_lt e1)).trans e1
              obtain ⟨bm, om, cm, pm, rfl, _⟩ := hum.cells
              obtain ⟨W6, eW6⟩ : ∃ W6, wr2.alloc (.cells #[.string X[m].1, .slice pm X[m].2.length cm] 37) = W6 := ⟨_, rfl⟩
              obtain ⟨z6, hW6, m6⟩ := boxes1 eW6
              have h60 := m6 0
              have h61 := m6 1
              simp only [List.getElem?_toArray, List.getElem?_cons_zero, List.getElem?_cons_succ] at h60 h61
              have hb56 : Below W5.heap.size W5 W6 := hb'.trans (hW6.mono hb'.size)
              have hb16 : Below W1.heap.size W1 W6 := HB15.out.trans (hb56.mono HB15.out.size)
              have hb36 : Below w3.heap.size w3 W6 := HB5.out.trans (hb56.mono HB5.out.size)
              have HCELL : Hid (∀ W, Below W6.heap.size W6 W → W.cell? ⟨w.heap.size, 0, none⟩ = some vc ∧ W.cell? ⟨w.heap.size, 1, none⟩ = some (.map (some r)) ∧ W.cell? ⟨wo.heap.size, 0, none⟩ = some (.string X[k].1) ∧ W.cell? ⟨wo.heap.size, 1, none⟩ = some (.slice pu X[k].2.length cu) ∧
                  W.cell? ⟨wr2.heap.size, 0, none⟩ = some (.string X[m].1) ∧ W.cell? ⟨wr2.heap.size, 1, none⟩ = some (.slice pm X[m].2.length cm)) := fun W hb => by
                have hbA : Below W1.heap.size W1 W := hb16.trans (hb.mono hb16.size)
                have hbB : Below W5.heap.size W5 W := hb56.trans (hb.mono hb56.size)
                have z1 := HZ.out
                have z5 := HZ5.out
                exact ⟨(hbA.cell (p := ⟨w.heap.size, 0, none⟩) (by simp only; omega)).trans HC0.out, (hbA.cell (p := ⟨w.heap.size, 1, none⟩) (by simp only; omega)).trans HC1.out,
                  (hbB.cell (p := ⟨wo.heap.size, 0, none⟩) (by simp only; omega)).trans H50.out, (hbB.cell (p := ⟨wo.heap.size, 1, none⟩) (by simp only; omega)).trans H51.out,
                  (hb.cell (p := ⟨wr2.heap.size, 0, none⟩) (by simp only; omega)).trans h60, (hb.cell (p := ⟨wr2.heap.size, 1, none⟩) (by simp only; omega)).trans h61⟩
              have HCV1 : Hid (Calls Tryz.prog 66 #[.agg #[vc, .map (some r)], .agg #[.string X[m].1, .slice pm X[m].2.length cm], .agg #[.string X[k].1, .slice pu X[k].2.length cu]] W6 fun e w' => e = .returned (.bool (coversB q X[m] X[k])) ∧ Below W6.heap.size W6 w') :=
                covers_calls q vc r X[m] X[k] _ _ W6 (HP.out.below hb16) (HOK.out _ (List.getElem_mem hmt)) (HOK.out _ (List.getElem_mem hlt)) (hum.stays (keeps_of_below hb36)) (HUK.out.stays (keeps_of_below hb36))
              have HCV2 : Hid (∀ W, Below W6.heap.size W6 W → Calls Tryz.prog 66 #[.agg #[vc, .map (some r)], .agg #[.string X[k].1, .slice pu X[k].2.length cu], .agg #[.string X[m].1, .slice pm X[m].2.length cm]] W fun e w' => e = .returned (.bool (coversB q X[k] X[m])) ∧ Below W.heap.size W w') := fun W hb =>
                covers_calls q vc r X[k] X[m] _ _ W (HP.out.below (hb16.trans (hb.mono hb16.size))) (HOK.out _ (List.getElem_mem hlt)) (HOK.out _ (List.getElem_mem hmt)) (HUK.out.stays (keeps_of_below (hb36.trans (hb.mono hb36.size)))) (hum.stays (keeps_of_below (hb36.trans (hb.mono hb36.size))))
              have hkill : goneTo q X k (m + 1) = (goneTo q X k m || (decide (k ≠ m) && (coversB q X[m] X[k] && (decide (m < k) || !coversB q X[k] X[m])))) := by
                rw [goneTo_succ, killAt_eq q hlt hmt]
              have HKILL := Lib.hid hkill
              have HB6 := Lib.hid hb56
              have HS6 := Lib.hid hW6
              obtain ⟨f0, f1, f2, f3, f4, f5⟩ := HCELL.out W6 (Below.refl _ _)
              clear m6 hW6 z6 hum e0 e1 hb3 hb56 hb16 hb36 hkill hb' h60 h61
              cases hg : goneTo q X k m with
              | true =>
                have HX : Hid (Value.bool true = .bool (goneTo q X k (m + 1))) := by unfold Hid; rw [HKILL.out, hg]; rfl
                clear hg HKILL HCV1 HCV2 HCELL
                go_wp2
                go_roundw
                case rel => exact ⟨m + 1, _, by omega, by go_num, HX.out, rfl, HB6.out⟩
                case measure => simp [intOf]; omega
              | false =>
                by_cases hkm : k = m
                · have HX : Hid (Value.bool false = .bool (goneTo q X k (m + 1))) := by unfold Hid; rw [HKILL.out, hg]; simp [hkm]
                  have q1 : ((k : Int) != (m : Int)) = false := by simp [hkm]
                  have q2 : ((k : Int) == (m : Int)) = true := by simp [hkm]
                  clear hg HKILL HCV1 HCV2 HCELL hkm
                  go_wp2
                  go_roundw
                  case rel => exact ⟨m + 1, _, by omega, by go_num, HX.out, rfl, HB6.out⟩
                  case measure => simp [intOf]; omega
                · have q1 : ((k : Int) != (m : Int)) = true := bne_iff_ne.2 (by omega)
                  have q2 : ((k : Int) == (m : Int)) = false := beq_eq_false_iff_ne.2 (by omega)
                  cases hc1 : coversB q X[m] X[k] with
                  | false =>
                    have HX : Hid (Value.bool false = .bool (goneTo q X k (m + 1))) := by unfold Hid; rw [HKILL.out, hg, hc1]; simp
                    rw [hc1] at HCV1
                    clear hg HKILL HCV2 HCELL hkm hc1
                    go_wp2_with (fail)
                    refine HCV1.out.mono ?_
                    rintro e w7 ⟨rfl, hb7⟩
                    have HB7 := Lib.hid (HB6.out.trans (hb7.mono HB6.out.size))
                    go_wp2
                    go_roundw
                    case rel => exact ⟨m + 1, _, by omega, by go_num, HX.out, rfl, HB7.out⟩
                    case measure => simp [intOf]; omega
                  | true =>
                    rw [hc1] at HCV1
                    by_cases hmk : m < k
                    · have HX : Hid (Value.bool true = .bool (goneTo q X k (m + 1))) := by unfold Hid; rw [HKILL.out, hg, hc1]; simp [hkm, hmk]
                      have q3 : (m : Int) < (k : Int) := by omega
                      clear hg HKILL HCV2 HCELL hkm hc1
                      go_wp2_with (fail)
                      refine HCV1.out.mono ?_
                      rintro e w7 ⟨rfl, hb7⟩
                      have HB7 := Lib.hid (HB6.out.trans (hb7.mono HB6.out.size))
                      go_wp2
                      go_roundw
                      case rel => exact ⟨m + 1, _, by omega, by go_num, HX.out, rfl, HB7.out⟩
                      case measure => simp [intOf]; omega
                    · have HX : Hid (Value.bool (!coversB q X[k] X[m]) = .bool (goneTo q X k (m + 1))) := by unfold Hid; rw [HKILL.out, hg, hc1]; simp [hkm, hmk]
                      have q3 : ¬ (m : Int) < (k : Int) := by omega
                      clear hg HKILL hkm hc1
                      go_wp2_with (fail)
                      refine HCV1.out.mono ?_
                      rintro e w7 ⟨rfl, hb7⟩
                      have HB7 := Lib.hid (HB6.out.trans (hb7.mono HB6.out.size))
                      have HCC := Lib.hid (HCV2.out w7 hb7)
                      clear f0 f1 f2 f3 f4 f5
                      obtain ⟨f0, f1, f2, f3, f4, f5⟩ := HCELL.out w7 hb7
                      clear hb7
                      go_wp2_with (fail)
                      refine HCC.out.mono ?_
                      rintro e w8 ⟨rfl, hb8⟩
                      have HB8 := Lib.hid (HB7.out.trans (hb8.mono HB7.out.size))
                      go_wp2
                      go_roundw
                      case rel => exact ⟨m + 1, _, by omega, by go_num, HX.out, rfl, HB8.out⟩
                      case measure => simp [intOf]; omega
            · obtain rfl : m = X.length := by omega
              have hg0 := goneTo_all q HRI.out hlt
              have hb3 : Below w3.heap.size w3 wr2 := HB5.out.trans (hb'.mono HB5.out.size)
              have hbr2 : Below wo.heap.size wo wr2 := HW5.out.trans (hb'.mono HW5.out.size)
              have hOW := own_below HOWN.out hbr2
              have f2 : wr2.cell? ⟨wo.heap.size, 0, none⟩ = some (.string X[k].1) := (hb'.cell (p := ⟨wo.heap.size, 0, none⟩) (by have := HZ5.out; simp only; omega)).trans H50.out
              have f3 : wr2.cell? ⟨wo.heap.size, 1, none⟩ = some (.slice pu X[k].2.length cu) := (hb'.cell (p := ⟨wo.heap.size, 1, none⟩) (by have := HZ5.out; simp only; omega)).trans H51.out
              have HB32 := Lib.hid hb3
              have hle := outTo_le q X k
              have hbs := hb3.size
              cases hg : goneB q X X[k] with
              | true =>
                have HX : Hid (outTo q X (k + 1) = outTo q X k) := outTo_miss hlt hg
                have HO := Lib.hid hOW
                rw [hg0, hg]
                clear hg0 hg hOW hb3 hbr2 hb' hmt
                go_wp2
                go_roundw
                case rel =>
                  refine ⟨k + 1, _, _, by omega, by go_num, rfl, rfl, HB32.out, xs, ?_, ?_⟩
                  · rw [HX.out]; exact HO.out
                  · rw [HX.out]; exact HROW.out
                case measure => simp [intOf]; omega
              | false =>
                have HX : Hid (outTo q X (k + 1) = outTo q X k ++ [X[k]]) := outTo_hit hlt hg
                rw [hg0, hg]
                clear hg0 hg hb3 hbr2 hb' hmt
                go_wp2_with (at_builtin; refine wpList_append_own _ rfl _ _ 25 rfl w3.heap.size 37 t0 (.agg #[.string ByteArray.empty, .slice none 0 0]) 2 40 Tryz.underlying25 hi hz0 hz1 hz2 rfl (by decide) _ (outTo q X k).length xs rfl (hOW.alloc _) ⟨wr2.heap.size, 0, none⟩ 1 1 [.string X[k].1, .slice pu X[k].2.length cu] rfl rfl ?c1 ?c2 ?c3 ?c4 ?c5 ?_)
                case c1 =>
                  intro j u hj
                  match j, hj with
                  | 0, hj => simp at hj; subst hj; simp [Addr.add]
                  | 1, hj => simp at hj; subst hj; simp [Addr.add]
                case c2 => intro u hu; simp at hu; rcases hu with rfl | rfl <;> rfl
                case c3 => unfold maxLen; omega
                case c4 => omega
                case c5 => simp; omega
                · intro v6 w6 hown6 hg6 _
                  have HO : Hid (w6.ownsRow w3.heap.size 37 2 v6 (outTo q X (k + 1)).length (xs ++ [.string X[k].1, .slice pu X[k].2.length cu])) := by
                    unfold Hid
                    rw [HX.out]
                    simpa using hown6
                  have HRN : Hid (Rows pol 2 w3 (outTo q X (k + 1)) (xs ++ [.string X[k].1, .slice pu X[k].2.length cu])) := by
                    unfold Hid
                    rw [HX.out]
                    exact HROW.out.append (.one ⟨[.string X[k].1], [.slice pu X[k].2.length cu], rfl, rfl, ⟨_, rfl, HUK.out⟩⟩ rfl)
                  have HBN : Hid (Below w3.heap.size w3 w6) := (HB32.out.alloc HB32.out.size _).grown hg6 (by have := HB32.out.size; simp; omega) (fun q hq => (HOWN.out.lt q hq).1)
                  clear hown6 hg6
                  go_wp2
                  go_roundw
                  case rel => exact ⟨k + 1, _, _, by omega, by go_num, rfl, rfl, HBN.out, _, HO, HRN⟩
                  case measure => simp [intOf]; omega
        · obtain rfl : k = X.length := by omega
          have hfin : Lbl wo (outTo q X X.length) yv := SliceOf.of_rows HOWN.out (Rows.stays pol_stays (keeps_of_below hbr) HROW.out)
          rw [HNF.out] at hfin
          have HF := Lib.hid hfin
          have HBW : Hid (Below w.heap.size w wo) := HW.out.trans ((HB3.out.trans (hbr.mono HB3.out.size)).mono HW.out.size)
          clear hfin hbr HOWN HROW
          go_wp2
          go_ret
          exact ⟨_, rfl, HF.out, HBW.out⟩
end Go.Proofs.YtcgihpfanfbonaaGreatDoor
