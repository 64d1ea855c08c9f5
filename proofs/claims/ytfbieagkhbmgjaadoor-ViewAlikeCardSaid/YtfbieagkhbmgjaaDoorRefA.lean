/-
  The reference's ActsFor: going from one to the next.
-/
import Derived.Test.YtfbieagkhbmgjaaDoorActsP
import Derived.Test.YtfbieagkhbmgjaaDoorChiefB
import Derived.Test.YtfbieagkhbmgjaaDoorEqS
import Derived.BigQuiet
import Derived.Deep.QuietTactic
namespace Go.Proofs.YtfbieagkhbmgjaaDoor
open Go.RowKit
set_option linter.unusedVariables false
set_option linter.unusedSimpArgs false

theorem addN_at {acts : List (Txt × Txt)} {x : Txt} {s : List Txt} {k : Nat} (hk : k < s.length) (hk' : k < (addN acts x s).length) : (addN acts x s)[k] = s[k] := by
  obtain ⟨t, e⟩ := addN_prefix x acts s
  simp only [e]
  exact List.getElem_append_left hk
theorem addN_len {acts : List (Txt × Txt)} {x : Txt} {s : List Txt} {k : Nat} (hk : k < s.length) : k < (addN acts x s).length := by
  obtain ⟨t, e⟩ := addN_prefix x acts s
  rw [e, List.length_append]; omega
theorem own_belowA {w w' : World} {base : Nat} {v : Value} {n : Nat} {xs : List Value} {e : TypeId} (h : w.ownsRow base e 1 v n xs) (hb : Below w.heap.size w w') : w'.ownsRow base e 1 v n xs := by
  obtain ⟨h1, h2⟩ := h
  refine ⟨h1, ?_⟩
  rcases h2 with h2 | ⟨g, cap, cur, e1, e2, e3, e4⟩
  · exact .inl h2
  · exact .inr ⟨g, cap, cur, e1, e2, by rw [hb.block g (Array.getElem?_eq_some_iff.1 e3).1]; exact e3, e4⟩

set_option maxHeartbeats 4000000 in
set_option maxRecDepth 100000 in
theorem refActs_calls (acts : List (Txt × Txt)) (a b : Txt) (u : Value) (w : World) (hu : Prs w acts u) (hn : acts.length ≤ 1048576) :
    Calls Tryd.prog 12 #[u, .string a, .string b] w fun e w' => e = .returned (.bool (actsF acts a b)) ∧ Below w.heap.size w w' := by
  obtain ⟨b2, o2, c2, p2, rfl, hlc2, hc2, hp2, hcells2⟩ := hu.cells
  obtain ⟨t0, hi, hz0, hz1, hz2⟩ := info_parts Tryd.info_string
  obtain ⟨W0, eW⟩ : ∃ W0, w.alloc (.cells #[.string a] 9) = W0 := ⟨_, rfl⟩
  have hB0 : Below w.heap.size w W0 := by rw [← eW]; exact (Below.refl _ _).alloc (Nat.le_refl _) _
  have hO0 : W0.ownsRow w.heap.size 9 1 (.slice (some ⟨w.heap.size, 0, none⟩) 1 1) ([a] : List Txt).length (([a] : List Txt).map Value.string) := by
    rw [← eW]
    exact World.ownsRow_lit (base := w.heap.size) (e := 9) (size := 1) w #[.string a] 1 (Nat.le_refl _) (by unfold maxLen; omega) rfl
  have HB0 := Lib.hid hB0
  have HO0 := Lib.hid hO0
  have HC2 := Lib.hid hcells2
  have HP2 := Lib.hid hp2
  have HACT : Hid (actsF acts a b = bfs acts b (acts.length + 2 - 0) 0 [a]) := rfl
  clear hB0 hO0 hcells2 hp2 hu
  go_enter Tryd.func12, Tryd.ntmps12
  go_wp2
  go_loopw [7, 8] (fun s i ws => ∃ (k : Nat) (S : List Txt) (wo : World) (sv : Value), k ≤ S.length ∧ i = .int .i64 k ∧ wo = ws ∧ sv = s ∧ Hid (Below w.heap.size w wo) ∧ Hid (wo.ownsRow w.heap.size 9 1 sv S.length (S.map Value.string)) ∧ Hid (SeenOk acts a S) ∧ Hid (actsF acts a b = bfs acts b (acts.length + 2 - k) k S)) (fun _ i _ => acts.length + 2 - (intOf i).toNat)
  case atStart => exact ⟨0, [a], _, _, Nat.zero_le _, rfl, rfl, rfl, HB0.out, HO0.out, SeenOk.start acts a, HACT.out⟩
  case round =>
    clear HACT
    obtain ⟨k, S, wo, sv, hk, rfl, rfl, rfl, HB, HOW, HSO, HBF⟩ := hrel
    have hS := Strs.of_owns HOW.out
    obtain ⟨bs, os, cs, ps, rfl, hls, hcs, hps, hcs2⟩ := hS.cells
    have hle := HSO.out.le
    by_cases hlt : k < S.length
    · have hcell := hcs2 k hlt
      obtain rfl := hps (by omega)
      have hlt' : (k : Int) < (S.length : Int) := by omega
      clear hps hcs2
      have hfu : acts.length + 2 - k = (acts.length + 2 - (k + 1)) + 1 := by omega
      by_cases hx : S[k] = b
      · have HX : Hid (actsF acts a b = true) := by unfold Hid; rw [HBF.out, hfu]; exact bfs_hit hlt hx
        have hq : ((S[k]).toList == b.toList) = true := bytes_eq.2 hx
        clear hx hS hfu
        go_wp2
        go_ret
        exact ⟨by rw [HX.out]; rfl, HB.out⟩
      · have hq : ((S[k]).toList == b.toList) = false := by rw [← Bool.not_eq_true]; exact fun h => hx (bytes_eq.1 h)
        have HON : Hid (actsF acts a b = bfs acts b (acts.length + 2 - (k + 1)) (k + 1) (addN acts S[k] S)) := by unfold Hid; rw [HBF.out, hfu]; exact bfs_on hlt hx
        have HSK : Hid (S[k] ∈ S) := List.getElem_mem hlt
        have HLT := Lib.hid hlt
        clear hx hS hfu HBF
        go_wp2
        go_loopw [7, 27] (fun s i ws => ∃ (j : Nat) (wi : World) (sv : Value), j ≤ acts.length ∧ i = .int .i64 j ∧ wi = ws ∧ sv = s ∧ Hid (Below w.heap.size w wi) ∧ Hid (wi.ownsRow w.heap.size 9 1 sv (addN (acts.take j) S[k] S).length ((addN (acts.take j) S[k] S).map Value.string))) (fun _ i _ => acts.length - (intOf i).toNat)
        case atStart => exact ⟨0, _, _, Nat.zero_le _, rfl, rfl, rfl, HB.out, HOW.out⟩
        case round =>
          clear hcell
          obtain ⟨j, wi, sv, hj, rfl, rfl, rfl, HBI, HOI⟩ := hrel
          by_cases hltj : j < acts.length
          · obtain ⟨g1, g2⟩ := HC2.out j hltj
            have hcell1 : wi.cell? ⟨b2, o2 + j * 2, none⟩ = some (.string acts[j].1) := (HBI.out.cell (cell_lt g1)).trans g1
            have hcell2 : wi.cell? ⟨b2, o2 + j * 2 + 1, none⟩ = some (.string acts[j].2) := (HBI.out.cell (cell_lt g2)).trans g2
            obtain rfl := HP2.out (by omega)
            have HTK : Hid (addN (acts.take (j + 1)) S[k] S = addOne S[k] (addN (acts.take j) S[k] S) acts[j]) := addN_take hltj
            have HSO2 := Lib.hid (HSO.out.add HSK.out (acts.take j) fun p hp => List.mem_of_mem_take hp)
            have hlen2 := HSO2.out.le
            have hkl : k < (addN (acts.take j) S[k] S).length := addN_len HLT.out
            have HAT : Hid ((addN (acts.take j) S[k] S)[k] = S[k]) := addN_at HLT.out hkl
            generalize hT : addN (acts.take j) S[k] S = T at *
            have hS := Strs.of_owns HOI.out
            obtain ⟨bs, os, cs, ps, rfl, hls, hcs, hps, hcs2⟩ := hS.cells
            have hcell := hcs2 k hkl
            rw [HAT.out] at hcell
            obtain rfl := hps (by omega)
            clear hps hcs2 hT
            obtain ⟨W3, eW3⟩ : ∃ W3, wi.alloc (.cells #[.string acts[j].1, .string acts[j].2] 33) = W3 := ⟨_, rfl⟩
            obtain ⟨z3, hW3, m3⟩ := boxes1 eW3
            have j0 := m3 0
            have j1 := m3 1
            simp only [List.getElem?_toArray, List.getElem?_cons_zero, List.getElem?_cons_succ] at j0 j1
            have hcell3 : W3.cell? ⟨bs, os + k, none⟩ = some (.string S[k]) := (hW3.cell (cell_lt hcell)).trans hcell
            have hkl' : (k : Int) < (T.length : Int) := by omega
            have HW3 := Lib.hid hW3
            have HB3 : Hid (Below w.heap.size w W3) := HBI.out.trans (hW3.mono HBI.out.size)
            have HOW3 := Lib.hid (own_belowA HOI.out hW3)
            have HCT : Hid (∀ n, Calls Tryd.prog 19 #[.slice (some ⟨bs, os, none⟩) T.length cs, .string acts[j].2] (W3.drewN n) fun e w'' => e = .returned (.bool (has T acts[j].2)) ∧ w'' = W3.drewN n) := fun n =>
              (contains_calls T acts[j].2 _ (W3.drewN n) (hS.stays (keeps_of_below (below_drewN hW3 n)))).mono fun _ _ h => ⟨h.1, h.2.symm⟩
            clear g1 g2 m3 z3 hW3 hS
            cases hq1 : ((acts[j].1).toList == (S[k]).toList) with
            | false =>
              have HNX : Hid (addN (acts.take (j + 1)) S[k] S = T) := by
                unfold Hid; rw [HTK.out]; unfold addOne
                rw [if_neg]
                intro h
                rw [Bool.and_eq_true] at h
                rw [bytes_eq.2 (eq_of_beq h.1)] at hq1
                cases hq1
              go_wp2
              go_quiet ((go_at_call 19; exact Calls.quiet_of_same (HCT.out _)))
              go_wp2
              go_roundw
              case rel =>
                refine ⟨j + 1, _, _, by omega, by go_num, rfl, rfl, below_drewN HB3.out nq, ?_⟩
                unfold Hid
                rw [HNX.out]
                exact own_belowA HOW3.out (below_drewN (Below.refl _ _) nq)
              case measure => simp [intOf]; omega
            | true =>
              have hxe : acts[j].1 = S[k] := bytes_eq.1 hq1
              cases hh : has T acts[j].2 with
              | true =>
                have HNX : Hid (addN (acts.take (j + 1)) S[k] S = T) := by
                  unfold Hid; rw [HTK.out]; unfold addOne
                  rw [if_neg]
                  rw [hh]
                  simp
                rw [hh] at HCT
                clear hxe hh
                go_wp2
                go_quiet ((go_at_call 19; exact Calls.quiet_of_same (HCT.out _)))
                go_wp2
                go_roundw
                case rel =>
                  refine ⟨j + 1, _, _, by omega, by go_num, rfl, rfl, below_drewN HB3.out nq, ?_⟩
                  unfold Hid
                  rw [HNX.out]
                  exact own_belowA HOW3.out (below_drewN (Below.refl _ _) nq)
                case measure => simp [intOf]; omega
              | false =>
                have HHIT : Hid (addN (acts.take (j + 1)) S[k] S = T ++ [acts[j].2]) := by
                  unfold Hid; rw [HTK.out]; unfold addOne
                  rw [if_pos]
                  rw [hh, hxe]
                  simp
                rw [hh] at HCT
                clear hxe hh
                go_wp2
                go_quiet ((go_at_call 19; exact Calls.quiet_of_same (HCT.out _)))
                obtain ⟨W5, e5⟩ : ∃ W5, W3.drewN nq = W5 := ⟨_, rfl⟩
                have hb5 : Below W3.heap.size W3 W5 := by rw [← e5]; exact below_drewN (Below.refl _ _) nq
                have j5 : W5.cell? ⟨wi.heap.size, 1, none⟩ = some (.string acts[j].2) := (hb5.cell (cell_lt j1)).trans j1
                have hown5 := own_belowA HOW3.out hb5
                have HB5 : Hid (Below w.heap.size w W5) := HB3.out.trans (hb5.mono HB3.out.size)
                have hsz5 := HB5.out.size
                rw [e5]
                clear e5 hb5 j0 j1 hcell1 hcell2 hcell3 hcell
                go_wp2_with (at_builtin; refine wpList_append_own _ rfl _ _ 22 rfl w.heap.size 9 t0 (.string ByteArray.empty) 1 16 Tryd.underlying22 hi hz0 hz1 hz2 rfl (by decide) _ _ _ rfl (hown5.alloc _) ⟨W5.heap.size, 0, none⟩ 1 1 [.string acts[j].2] rfl rfl ?c1 ?c2 ?c3 ?c4 ?c5 ?_)
                case c1 =>
                  intro i u hj
                  match i, hj with
                  | 0, hj => simp at hj; subst hj; simp [Addr.add]
                case c2 => intro u hu; simp at hu; subst hu; rfl
                case c3 => unfold maxLen; omega
                case c4 => omega
                case c5 => simp; omega
                · intro v' w6 hown' hgrow _
                  go_wp2
                  go_roundw
                  case rel =>
                    refine ⟨j + 1, _, _, by omega, by go_num, rfl, rfl, (HB5.out.alloc HB5.out.size _).grown hgrow (by simp; omega) (fun q hq => (hown5.lt q hq).1), ?_⟩
                    unfold Hid
                    rw [HHIT.out]
                    simpa using hown'
                  case measure => simp [intOf]; omega
          · obtain rfl : j = acts.length := by omega
            rw [List.take_length] at HOI
            have hkl := addN_len (acts := acts) (x := S[k]) HLT.out
            have HNEW := Lib.hid (HSO.out.add HSK.out acts fun p hp => hp)
            go_wp2
            go_roundw
            case rel => exact ⟨k + 1, addN acts S[k] S, _, _, by omega, by go_num, rfl, rfl, HBI.out, HOI.out, HNEW.out, HON.out⟩
            case measure => simp [intOf]; omega
    · have HX : Hid (actsF acts a b = false) := by unfold Hid; rw [HBF.out]; exact bfs_end hlt
      have hlt' : ¬ (k : Int) < (S.length : Int) := by omega
      clear hps hcs2 hS
      go_wp2
      go_ret
      exact ⟨by rw [HX.out]; rfl, HB.out⟩
end Go.Proofs.YtfbieagkhbmgjaaDoor
