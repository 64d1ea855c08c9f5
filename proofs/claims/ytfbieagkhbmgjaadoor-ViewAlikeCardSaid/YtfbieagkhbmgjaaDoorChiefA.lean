/-
  chief.Check: whether chiefs, and who acts for whom, are right.
-/
import Derived.Test.YtfbieagkhbmgjaaDoorScanB
namespace Go.Proofs.YtfbieagkhbmgjaaDoor
open Go.RowKit
set_option linter.unusedVariables false
set_option linter.unusedSimpArgs false

/-- What is wrong with the chief at a place. -/
def nameErr (l : List Txt) (i : Nat) : Int := if isName (l.getD i ByteArray.empty) then (if has (l.take i) (l.getD i ByteArray.empty) then 6 else 0) else 4
/-- What is wrong with the first one with whom something is. -/
def errNames (l : List Txt) : Int := ((List.range l.length).find? fun i => nameErr l i != 0).elim 0 (nameErr l)
def actOk (l : List Txt) (a : Txt × Txt) : Bool := has l a.1 && has l a.2
def checkC (l : List Txt) (acts : List (Txt × Txt)) : Int :=
  if 6 < l.length ∨ 10 < acts.length then 2 else if errNames l ≠ 0 then errNames l else if acts.all (actOk l) then 0 else 5

theorem errNames_at {l : List Txt} {k : Nat} (hk : k < l.length) (h : nameErr l k ≠ 0) (hne : ∀ j, j < k → nameErr l j = 0) : errNames l = nameErr l k := by
  unfold errNames
  have : (List.range l.length).find? (fun i => nameErr l i != 0) = some k := by
    rw [List.find?_range_eq_some]
    refine ⟨by simpa using h, by simpa using hk, fun j hj => by simp [hne j hj]⟩
  rw [this]; rfl
theorem errNames_none {l : List Txt} (hne : ∀ j, j < l.length → nameErr l j = 0) : errNames l = 0 := by
  unfold errNames
  have : (List.range l.length).find? (fun i => nameErr l i != 0) = none := by
    rw [List.find?_range_eq_none]
    intro j hj; simp [hne j hj]
  rw [this]; rfl
theorem getD_at {l : List Txt} {k : Nat} (hk : k < l.length) : l.getD k ByteArray.empty = l[k] := by simp [List.getD, hk]

theorem checkC_name {l : List Txt} {acts : List (Txt × Txt)} (h1 : l.length ≤ 6) (h2 : acts.length ≤ 10) {k : Nat} (hk : k < l.length) (hne : ∀ j, j < k → nameErr l j = 0) {n : Int} (h : nameErr l k = n) (hn : n ≠ 0) : checkC l acts = n := by
  have := errNames_at hk (by omega) hne
  unfold checkC
  rw [if_neg (by omega), if_pos (by omega)]
  omega
theorem checkC_acts {l : List Txt} {acts : List (Txt × Txt)} (h1 : l.length ≤ 6) (h2 : acts.length ≤ 10) (h : errNames l = 0) {k : Nat} (hk : k < acts.length) (ha : actOk l acts[k] = false) : checkC l acts = 5 := by
  unfold checkC
  rw [if_neg (by omega), if_neg (by omega), if_neg]
  intro hall
  rw [List.all_eq_true.1 hall _ (List.getElem_mem hk)] at ha
  cases ha
theorem checkC_ok {l : List Txt} {acts : List (Txt × Txt)} (h1 : l.length ≤ 6) (h2 : acts.length ≤ 10) (h : errNames l = 0) (ha : ∀ j (hj : j < acts.length), actOk l acts[j] = true) : checkC l acts = 0 := by
  unfold checkC
  rw [if_neg (by omega), if_neg (by omega), if_pos]
  rw [List.all_eq_true]
  intro x hx
  obtain ⟨j, hj, rfl⟩ := List.getElem_of_mem hx
  exact ha j hj
theorem checkC_many {l : List Txt} {acts : List (Txt × Txt)} (h : 6 < l.length ∨ 10 < acts.length) : checkC l acts = 2 := by
  unfold checkC; rw [if_pos h]

set_option maxHeartbeats 400000 in
theorem check_calls (l : List Txt) (acts : List (Txt × Txt)) (v u : Value) (w : World) (hv : Strs w l v) (hu : Prs w acts u) :
    Calls Tryd.prog 18 #[v, u] w fun e w' => e = .returned (.int .i64 (checkC l acts)) ∧ Below w.heap.size w w' := by
  have hv0 := hv
  obtain ⟨b, o, c, p, rfl, hlc, hc, hp, hcells⟩ := hv.cells
  obtain ⟨b2, o2, c2, p2, rfl, hlc2, hc2, hp2, hcells2⟩ := hu.cells
  clear hv hu
  by_cases h1 : l.length ≤ 6
  · by_cases h2 : acts.length ≤ 10
    · have h1' : ¬ 6 < (l.length : Int) := by omega
      have h2' : ¬ 10 < (acts.length : Int) := by omega
      go_enter Tryd.func18, Tryd.ntmps18
      go_wp2
      go_loopw [5, 6, 21] (fun _ _ i wr => ∃ k : Nat, k ≤ l.length ∧ i = .int .i64 k ∧ Below w.heap.size w wr ∧ Hid (∀ j, j < k → nameErr l j = 0)) (fun _ _ i _ => l.length - (intOf i).toNat)
      case atStart => exact ⟨0, Nat.zero_le _, rfl, Below.refl _ _, fun j hj => absurd hj (Nat.not_lt_zero _)⟩
      case round =>
        obtain ⟨k, hk, rfl, hb, HN⟩ := hrel
        by_cases hlt : k < l.length
        · have hcell0 := hcells k hlt
          have hcell : wr.cell? ⟨b, o + k, none⟩ = some (.string l[k]) := (hb.cell (cell_lt hcell0)).trans hcell0
          have hkc : k ≤ c := by omega
          obtain rfl := hp (by omega)
          have HT : Hid (∀ w', Below w.heap.size w w' → Strs w' (l.take k) (.slice (some ⟨b, o, none⟩) k c)) := fun w' hb' => (hv0.stays (keeps_of_below hb')).take k hk
          clear hp hp2 hcells hcells2 hcell0
          cases hnm : isName l[k] with
          | false =>
            have HX : Hid (checkC l acts = 4) := checkC_name h1 h2 hlt HN.out (by unfold nameErr; rw [getD_at hlt, hnm]; rfl) (by omega)
            go_wp2_with (go_at_call 44; refine (name_calls _ _).mono ?_; rintro e w1 ⟨rfl, hb1⟩)
            go_ret
            exact ⟨ret_int HX.out.symm, hb.trans (hb1.mono hb.size)⟩
          | true =>
            cases hh : has (l.take k) l[k] with
            | true =>
              have HX : Hid (checkC l acts = 6) := checkC_name h1 h2 hlt HN.out (by unfold nameErr; rw [getD_at hlt, hnm, hh]; rfl) (by omega)
              go_wp2_with (first | (go_at_call 44; refine (name_calls _ _).mono ?_; rintro e w1 ⟨rfl, hb1⟩) | (go_at_call 19; refine (contains_calls (l.take k) _ _ _ (HT.out _ (hb.trans (hb1.mono hb.size)))).mono ?_; rintro e w2 ⟨rfl, rfl⟩))
              go_ret
              exact ⟨ret_int HX.out.symm, hb.trans (hb1.mono hb.size)⟩
            | false =>
              have HX : Hid (nameErr l k = 0) := by show nameErr l k = 0; unfold nameErr; rw [getD_at hlt, hnm, hh]; rfl
              go_wp2_with (first | (go_at_call 44; refine (name_calls _ _).mono ?_; rintro e w1 ⟨rfl, hb1⟩) | (go_at_call 19; refine (contains_calls (l.take k) _ _ _ (HT.out _ (hb.trans (hb1.mono hb.size)))).mono ?_; rintro e w2 ⟨rfl, rfl⟩))
              go_roundw
              case rel =>
                refine ⟨k + 1, by omega, by go_num, hb.trans (hb1.mono hb.size), fun j hj => ?_⟩
                by_cases e : j = k
                · subst e; exact HX.out
                · exact HN.out j (by omega)
              case measure => simp [intOf]; omega
        · have HE : Hid (errNames l = 0) := errNames_none fun j hj => HN.out j (by omega)
          clear hp hcells HN
          go_wp2
          go_loopw [10, 37] (fun _ i wr => ∃ k : Nat, k ≤ acts.length ∧ i = .int .i64 k ∧ Below w.heap.size w wr ∧ Hid (∀ j (hj : j < acts.length), j < k → actOk l acts[j] = true)) (fun _ i _ => acts.length - (intOf i).toNat)
          case atStart => exact ⟨0, Nat.zero_le _, rfl, hb, fun j _ hj => absurd hj (Nat.not_lt_zero _)⟩
          case round =>
            obtain ⟨k2, hk2, rfl, hb2, HN⟩ := hrel
            by_cases hlt2 : k2 < acts.length
            · obtain ⟨hc1, hc2'⟩ := hcells2 k2 hlt2
              have hcell1 : wr.cell? ⟨b2, o2 + k2 * 2, none⟩ = some (.string acts[k2].1) := (hb2.cell (cell_lt hc1)).trans hc1
              have hcell2 : wr.cell? ⟨b2, o2 + k2 * 2 + 1, none⟩ = some (.string acts[k2].2) := (hb2.cell (cell_lt hc2')).trans hc2'
              obtain rfl := hp2 (by omega)
              clear hp2 hcells2 hc1 hc2'
              go_wp2
              have i0 : ∀ x y (w : World), (Instr.index 33 (.agg #[x, y]) (.int .i64 0)).run Tryd.prog w = .ok x w := fun _ _ _ => by kernel_rfl
              have i1 : ∀ x y (w : World), (Instr.index 33 (.agg #[x, y]) (.int .i64 1)).run Tryd.prog w = .ok y w := fun _ _ _ => by kernel_rfl
              have hS : Strs (wr.alloc (.cells #[.string acts[k2].1, .string acts[k2].2] 33)) l (.slice p l.length c) := hv0.stays (keeps_of_below (hb2.alloc hb2.size _))
              go_loop [10, 42] (fun _ i => ∃ m : Nat, m ≤ 2 ∧ i = .int .i64 m ∧ Hid ((0 < m → has l acts[k2].1 = true) ∧ (1 < m → has l acts[k2].2 = true))) (fun _ i => 2 - (intOf i).toNat)
              case atStart => exact ⟨0, by omega, rfl, fun h => absurd h (by omega), fun h => absurd h (by omega)⟩
              case round =>
                obtain ⟨m, hm, rfl, HM⟩ := hrel
                match m, hm, HM with
                | 0, _, HM =>
                  cases hh : has l acts[k2].1 with
                  | true =>
                    go_wp2_with (go_at_call 19; refine (contains_calls l _ _ _ hS).mono ?_; rintro e w2 ⟨rfl, rfl⟩)
                    go_round
                    case rel => exact ⟨1, by omega, by go_num, fun _ => by first | trivial | exact hh, fun h => absurd h (by omega)⟩
                    case measure => simp [intOf]
                  | false =>
                    have HX : Hid (checkC l acts = 5) := checkC_acts h1 h2 HE.out hlt2 (by unfold actOk; rw [hh]; rfl)
                    go_wp2_with (go_at_call 19; refine (contains_calls l _ _ _ hS).mono ?_; rintro e w2 ⟨rfl, rfl⟩)
                    go_ret
                    exact ⟨ret_int HX.out.symm, hb2.alloc hb2.size _⟩
                | 1, _, HM =>
                  cases hh : has l acts[k2].2 with
                  | true =>
                    go_wp2_with (go_at_call 19; refine (contains_calls l _ _ _ hS).mono ?_; rintro e w2 ⟨rfl, rfl⟩)
                    go_round
                    case rel => exact ⟨2, by omega, by go_num, fun _ => HM.out.1 (by omega), fun _ => by first | trivial | exact hh⟩
                    case measure => simp [intOf]
                  | false =>
                    have HX : Hid (checkC l acts = 5) := checkC_acts h1 h2 HE.out hlt2 (by unfold actOk; rw [hh]; simp)
                    go_wp2_with (go_at_call 19; refine (contains_calls l _ _ _ hS).mono ?_; rintro e w2 ⟨rfl, rfl⟩)
                    go_ret
                    exact ⟨ret_int HX.out.symm, hb2.alloc hb2.size _⟩
                | 2, _, HM =>
                  have HA : Hid (actOk l acts[k2] = true) := by show actOk l acts[k2] = true; unfold actOk; rw [HM.out.1 (by omega), HM.out.2 (by omega)]; rfl
                  go_wp2
                  go_roundw
                  case rel =>
                    refine ⟨k2 + 1, by omega, by go_num, hb2.alloc hb2.size _, fun j hj hj' => ?_⟩
                    by_cases e : j = k2
                    · subst e; exact HA.out
                    · exact HN.out j hj (by omega)
                  case measure => simp [intOf]; omega
            · have HX : Hid (checkC l acts = 0) := checkC_ok h1 h2 HE.out (fun j hj => HN.out j hj (by omega))
              clear hp2 hcells2
              go_wp2
              go_ret
              exact ⟨ret_int HX.out.symm, hb2⟩
    · have h2' : 10 < (acts.length : Int) := by omega
      have h1' : ¬ 6 < (l.length : Int) := by omega
      have HX : Hid (checkC l acts = 2) := checkC_many (Or.inr (by omega))
      go_enter Tryd.func18, Tryd.ntmps18
      go_wp2
      go_ret
      exact ⟨ret_int HX.out.symm, Below.refl _ _⟩
  · have h1' : 6 < (l.length : Int) := by omega
    have HX : Hid (checkC l acts = 2) := checkC_many (Or.inl (by omega))
    go_enter Tryd.func18, Tryd.ntmps18
    go_wp2
    go_ret
    exact ⟨ret_int HX.out.symm, Below.refl _ _⟩
end Go.Proofs.YtfbieagkhbmgjaaDoor
