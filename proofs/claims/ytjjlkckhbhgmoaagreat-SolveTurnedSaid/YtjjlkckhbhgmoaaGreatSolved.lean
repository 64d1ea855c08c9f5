/-
  cloisterlaw.solved: the closed fact of two bounds.
-/
import Derived.Test.YtjjlkckhbhgmoaaGreatBrokenC
import Derived.Test.YtjjlkckhbhgmoaaGreatLabelLess
import Derived.Test.YtjjlkckhbhgmoaaGreatEqI
namespace Go.Proofs.YtjjlkckhbhgmoaaGreat
open Go.RowKit Go.Maps
set_option linter.unusedVariables false
set_option linter.unusedSimpArgs false

def aTS : Txt := ⟨#[97]⟩
def bTS : Txt := ⟨#[98]⟩
def abLS : List Txt := [aTS, bTS]
theorem ab_okS : okList okTxt abLS := fun s hs => by simp [abLS] at hs; rcases hs with rfl | rfl <;> (unfold okTxt; decide)
theorem objT_atS (w : World) (l : List Txt) (e : TypeId) (n : Nat) (hn : w.heap.size = n) (hl : l.length ≤ 9223372036854775807) : Strs (w.alloc (.cells (l.map Value.string).toArray e)) l (.slice (some ⟨n, 0, none⟩) l.length l.length) := by
  subst hn; exact strs_new w l e hl

def onePol : Pol := (aTS, [])
def sBs : List Bnd := [([], [onePol], 0, [], 0, []), ([0], [], -1, [], 0, [])]
theorem norm_one (q : Txt → Txt → Bool) : normL q [onePol] = [onePol] := by
  have hp : plainP onePol = onePol := by
    unfold plainP onePol
    rw [plainR_self List.Pairwise.nil (by simp)]
  have ha : allOf [onePol] = [onePol] := allOf_self (List.pairwise_singleton _ _) fun p hp' => by
    rw [List.mem_singleton.1 hp']; exact hp
  unfold normL
  rw [ha]
  unfold normOf goneB
  simp
theorem into_0 (q : Txt → Txt → Bool) (m : List Lab) : intoL q m ([], [onePol], 0, [], 0, []) = [onePol] := by
  show normL q ([onePol].filter fun p => !leftOut q [] p) = _
  have : ([onePol].filter fun p => !leftOut q [] p) = [onePol] := by simp [leftOut, anyBy]
  rw [this]
  exact norm_one q
theorem solved_flows : flowsB (mayB abLS []) [onePol] [onePol] = true := by decide +kernel
theorem solved_flows0 (q : Txt → Txt → Bool) : flowsB q [onePol] [] = false := rfl
theorem solved_round1 : roundM (mayB abLS []) sBs [[]] = [[onePol]] := by
  have h0 : stepM (mayB abLS []) [[]] ([], [onePol], 0, [], 0, []) = [[onePol]] := by
    rw [stepM_raise (by decide) (by rw [into_0]; exact solved_flows0 _), into_0]
    show [joinL (mayB abLS []) [] [onePol]] = _
    unfold joinL
    rw [List.nil_append, norm_one]
  have h1 : ∀ m, stepM (mayB abLS []) m ([0], [], -1, [], 0, []) = m := fun m => stepM_holds (by unfold holdsB; rw [Bool.or_eq_true]; exact .inl (decide_eq_true (by show (-1 : Int) < 0; decide)))
  unfold roundM sBs
  rw [List.foldl_cons, List.foldl_cons, List.foldl_nil, h0, h1]
theorem solved_round2 : roundM (mayB abLS []) sBs [[onePol]] = [[onePol]] := by
  have h0 : stepM (mayB abLS []) [[onePol]] ([], [onePol], 0, [], 0, []) = [[onePol]] := stepM_holds (by
    unfold holdsB
    rw [into_0, Bool.or_eq_true]
    exact .inr solved_flows)
  have h1 : ∀ m, stepM (mayB abLS []) m ([0], [], -1, [], 0, []) = m := fun m => stepM_holds (by unfold holdsB; rw [Bool.or_eq_true]; exact .inl (decide_eq_true (by show (-1 : Int) < 0; decide)))
  unfold roundM sBs
  rw [List.foldl_cons, List.foldl_cons, List.foldl_nil, h0, h1]
theorem solved_is {m : List Lab} (h : SolvedM abLS [] 1 sBs m) : m = [[onePol]] := by
  obtain ⟨k, hk⟩ := h.iter
  have hit : ∀ j, itersM (mayB abLS []) sBs (j + 1) (List.replicate 1 []) = [[onePol]] := by
    intro j
    induction j with
    | zero => exact solved_round1
    | succ j ih =>
      show roundM _ _ (itersM _ _ (j + 1) _) = _
      rw [ih]; exact solved_round2
  cases k with
  | zero =>
    have hf := h.fix
    rw [hk] at hf
    have : roundM (mayB abLS []) sBs [[]] = [[]] := hf
    rw [solved_round1] at this
    cases this
  | succ k => rw [hk]; exact hit k
theorem solved_e : solveE abLS [] 1 sBs = 0 := by decide +kernel
theorem solved_brokenE : brokenE abLS [] [[onePol]] sBs = 0 := by decide +kernel
theorem solved_brokenR : brokenR abLS [] [[onePol]] sBs = [1] := by
  unfold brokenR
  rw [if_pos solved_brokenE]
  have h0 : brokenTo (mayB abLS []) [[onePol]] sBs 1 = brokenTo (mayB abLS []) [[onePol]] sBs 0 := brokenTo_miss (by decide) (by
    show (!flowsB _ (intoL _ _ ([], [onePol], 0, [], 0, [])) [onePol]) = false
    rw [into_0, solved_flows]; rfl)
  have h1 : brokenTo (mayB abLS []) [[onePol]] sBs 2 = brokenTo (mayB abLS []) [[onePol]] sBs 1 ++ [((1 : Nat) : Int)] := brokenTo_hit (by decide) (by
    show (!flowsB _ (intoL _ _ ([0], [], -1, [], 0, [])) []) = true
    have : intoL (mayB abLS []) [[onePol]] ([0], [], -1, [], 0, []) = [onePol] := by
      show normL _ ((joinL (mayB abLS []) [] [onePol]).filter fun p => !leftOut _ [] p) = _
      unfold joinL
      rw [List.nil_append, norm_one]
      have : ([onePol].filter fun p => !leftOut (mayB abLS []) [] p) = [onePol] := by simp [leftOut, anyBy]
      rw [this]
      exact norm_one _
    rw [this]; rfl)
  show brokenTo (mayB abLS []) [[onePol]] sBs 2 = _
  rw [h1, h0]; rfl
theorem one_lbl (W : World) : Lbl (W.alloc (.cells #[.string ⟨#[97]⟩, .slice none 0 0] 47)) [onePol] (.slice (some ⟨W.heap.size, 0, none⟩) 1 1) := by
  refine ⟨_, _, rfl, by decide, by unfold maxLen; decide, Or.inr ⟨_, 0, rfl, fun i hi => ?_⟩⟩
  match i, hi with
  | 0, _ =>
    refine ⟨[.string aTS, .slice none 0 0], ⟨[.string aTS], _, rfl, rfl, ⟨_, rfl, nil_readsS _ _ _⟩⟩, rfl, fun j x hx => ?_⟩
    match j, hx with
    | 0, hx => simp at hx; subst hx; rw [alloc_cell_new _ _ _ _ _ rfl]; rfl
    | 1, hx => simp at hx; subst hx; rw [alloc_cell_new _ _ _ _ _ rfl]; rfl
theorem one_num (W : World) (k : Int) : Nums (W.alloc (.cells #[.int .i64 k] 3)) [k] (.slice (some ⟨W.heap.size, 0, none⟩) 1 1) := by
  refine ⟨_, _, rfl, by simp, by unfold maxLen; decide, Or.inr ⟨_, 0, rfl, fun i hi => ?_⟩⟩
  match i, hi with
  | 0, _ =>
    refine ⟨[.int .i64 k], rfl, rfl, fun j x hx => ?_⟩
    match j, hx with
    | 0, hx => simp at hx; subst hx; rw [alloc_cell_new _ _ _ _ _ rfl]; rfl
theorem one_ok : okLab [onePol] := fun p hp => by
  rw [List.mem_singleton.1 hp]
  exact ⟨by show (1 : Nat) ≤ _; decide, fun s hs => by cases hs⟩
theorem sBs_ok : okList okBnd sBs := fun b hb => by
  simp only [sBs, List.mem_cons, List.not_mem_nil, or_false] at hb
  rcases hb with rfl | rfl
  · exact ⟨fun x hx => (by cases hx), one_ok, ⟨by decide, by decide⟩, fun x hx => (by cases hx), ⟨by decide, by decide⟩, fun x hx => by cases hx⟩
  · exact ⟨fun x hx => (by rw [List.mem_singleton.1 hx]; exact ⟨by decide, by decide⟩), fun x hx => (by cases hx), ⟨by decide, by decide⟩, fun x hx => (by cases hx), ⟨by decide, by decide⟩, fun x hx => by cases hx⟩

set_option maxHeartbeats 4000000 in
set_option maxRecDepth 100000 in
theorem solved_calls (w : World) : Calls Tryz.prog 5 #[] w fun e w' => e = .returned (.bool true) ∧ Below w.heap.size w w' := by
  have hS1 := objT_atS w abLS 9 _ rfl (by decide)
  have hL1 := one_lbl (w.alloc (.cells #[.string ⟨#[97]⟩, .string ⟨#[98]⟩] 9))
  obtain ⟨W2, eW2⟩ : ∃ W2, (w.alloc (.cells #[.string ⟨#[97]⟩, .string ⟨#[98]⟩] 9)).alloc (.cells #[.string ⟨#[97]⟩, .slice none 0 0] 47) = W2 := ⟨_, rfl⟩
  obtain ⟨z2, hW2, _, _⟩ := boxes2 eW2
  rw [eW2] at hL1
  have hS2 : Strs W2 abLS (.slice (some ⟨w.heap.size, 0, none⟩) 2 2) := by
    have h := hS1.stays (keeps_of_below ((Below.refl _ _).alloc (Nat.le_refl _) (.cells #[.string ⟨#[97]⟩, .slice none 0 0] 47)))
    rw [← eW2]; exact h
  have hL2 : Lbl W2 [onePol] (.slice (some ⟨w.heap.size + 1, 0, none⟩) 1 1) := by simpa using hL1
  have hN1 := one_num W2 0
  obtain ⟨W4, eW4⟩ : ∃ W4, (W2.alloc (.cells #[.int .i64 0] 3)).alloc (.cells #[.slice none 0 0, .slice (some ⟨w.heap.size + 1, 0, none⟩) 1 1, .int .i64 0, .slice none 0 0, .int .i64 0, .slice none 0 0, .slice (some ⟨W2.heap.size, 0, none⟩) 1 1, .slice none 0 0, .int .i64 (-1), .slice none 0 0, .int .i64 0, .slice none 0 0] 35) = W4 := ⟨_, rfl⟩
  obtain ⟨z4, hW4, _, m4⟩ := boxes2 eW4
  have hN2 : Nums W4 [0] (.slice (some ⟨W2.heap.size, 0, none⟩) 1 1) := by
    have h := hN1.stays (keeps_of_below ((Below.refl _ _).alloc (Nat.le_refl _) (.cells #[.slice none 0 0, .slice (some ⟨w.heap.size + 1, 0, none⟩) 1 1, .int .i64 0, .slice none 0 0, .int .i64 0, .slice none 0 0, .slice (some ⟨W2.heap.size, 0, none⟩) 1 1, .slice none 0 0, .int .i64 (-1), .slice none 0 0, .int .i64 0, .slice none 0 0] 35)))
    rw [← eW4]; exact h
  have hS4 := hS2.stays (keeps_of_below hW4)
  have hL4 := hL2.stays (keeps_of_below hW4)
  have hB : Bnds W4 sBs (.slice (some ⟨W2.heap.size + 1, 0, none⟩) 2 2) := by
    refine ⟨_, _, rfl, by decide, by unfold maxLen; decide, Or.inr ⟨_, 0, rfl, fun i hi => ?_⟩⟩
    match i, hi with
    | 0, _ =>
      refine ⟨[.slice none 0 0, .slice (some ⟨w.heap.size + 1, 0, none⟩) 1 1, .int .i64 0, .slice none 0 0, .int .i64 0, .slice none 0 0],
        ⟨[_], _, rfl, ⟨_, rfl, nil_readsS _ _ _⟩, [_], _, rfl, ⟨_, rfl, hL4⟩, [_], _, rfl, rfl, [_], _, rfl, ⟨_, rfl, nil_readsS _ _ _⟩, [_], _, rfl, rfl, ⟨_, rfl, nil_readsS _ _ _⟩⟩, rfl, fun j x hx => ?_⟩
      match j, hx with
      | 0, hx | 1, hx | 2, hx | 3, hx | 4, hx | 5, hx => simp at hx; subst hx; rw [m4]; rfl
    | 1, _ =>
      refine ⟨[.slice (some ⟨W2.heap.size, 0, none⟩) 1 1, .slice none 0 0, .int .i64 (-1), .slice none 0 0, .int .i64 0, .slice none 0 0],
        ⟨[_], _, rfl, ⟨_, rfl, hN2⟩, [_], _, rfl, ⟨_, rfl, nil_readsS _ _ _⟩, [_], _, rfl, rfl, [_], _, rfl, ⟨_, rfl, nil_readsS _ _ _⟩, [_], _, rfl, rfl, ⟨_, rfl, nil_readsS _ _ _⟩⟩, rfl, fun j x hx => ?_⟩
      match j, hx with
      | 0, hx | 1, hx | 2, hx | 3, hx | 4, hx | 5, hx => simp at hx; subst hx; rw [m4]; rfl
  have HW : Hid (Below w.heap.size w W4) := hW2.trans (hW4.mono hW2.size)
  have HS4 := Lib.hid hS4
  have HBN := Lib.hid hB
  have HLC := Lib.hid (least_calls abLS [] 1 sBs _ _ _ W4 hS4 (nil_readsS _ _ _) hB ab_okS sBs_ok)
  clear hS1 hL1 z2 hW2 hS2 hL2 hN1 z4 hW4 m4 hN2 hS4 hL4 hB
  go_enter Tryz.func5, Tryz.ntmps5
  go_wp2_with (fail)
  refine HLC.out.mono ?_
  rintro e w5 ⟨y, m, rfl, hy, hok, _, hso, hb5⟩
  obtain rfl := solved_is (hso solved_e)
  rw [solved_e]
  obtain ⟨by_, oy, cy, py, rfl, _, _, hpy, hcy⟩ := hy.cells
  obtain rfl := hpy (by decide)
  obtain ⟨ux, gx, hux⟩ := hcy 0 (by decide)
  have e3 : ([[onePol]] : List Lab).length = 1 := rfl
  rw [e3] at hy ⊢
  have HY := Lib.hid hy
  have HUX : Hid (Lbl w5 [onePol] ux) := hux
  have HGX : Hid (w5.cell? ⟨by_, oy, none⟩ = some ux) := gx
  have HB5 := Lib.hid hb5
  have HBC := Lib.hid (broken_calls abLS [] [[onePol]] sBs _ _ _ _ w5 (HS4.out.stays (keeps_of_below hb5)) (nil_readsS _ _ _) hy (HBN.out.stays (keeps_of_below hb5)) ab_okS hok sBs_ok)
  clear hy hok hso hb5 hpy hcy gx hux e3 HLC
  go_wp2_with (fail)
  refine HBC.out.mono ?_
  rintro e w6 ⟨z, rfl, hz, hb6⟩
  rw [solved_brokenE]
  rw [solved_brokenR] at hz
  have HZ := Lib.hid hz
  obtain ⟨bz, oz, cz, pz, rfl, _, _, hpz, _⟩ := hz.cells
  obtain rfl := hpz (by decide)
  clear hpz
  have e4 : ([1] : List Int).length = 1 := rfl
  rw [e4] at hz HZ ⊢
  have gx6 : w6.cell? ⟨by_, oy, none⟩ = some ux := (hb6.cell (cell_lt HGX.out)).trans HGX.out
  have HUX6 := Lib.hid (HUX.out.stays (keeps_of_below hb6))
  have hux6 := HUX6.out
  obtain ⟨bx, ox, cx, px, rfl, _, _, hpx, _⟩ := hux6.cells
  obtain rfl := hpx (by decide)
  have e6 : ([onePol] : Lab).length = 1 := rfl
  rw [e6] at HUX6 gx6
  clear hux6 hpx e6
  have HB6 : Hid (Below w.heap.size w w6) := HW.out.trans ((HB5.out.trans (hb6.mono HB5.out.size)).mono HW.out.size)
  clear hz hb6 e4 HBC
  go_wp2_with (fail)
  have hb7 : Below w6.heap.size w6 (w6.alloc (.cells #[.string ⟨#[97]⟩, .slice none 0 0] 47)) := (Below.refl _ _).alloc (Nat.le_refl _) _
  refine (sameLabel_calls [onePol] _ _ _ (HUX6.out.stays (keeps_of_below hb7)) (one_lbl w6)).mono ?_
  rintro e w8 ⟨rfl, hb8⟩
  have hb68 : Below w6.heap.size w6 w8 := hb7.trans (hb8.mono hb7.size)
  have HB8 : Hid (Below w.heap.size w w8) := HB6.out.trans (hb68.mono HB6.out.size)
  have HZ8 := Lib.hid (HZ.out.stays (keeps_of_below hb68))
  clear hb7 hb8 hb68 gx6
  go_wp2_with (fail)
  have hb9 : Below w8.heap.size w8 (w8.alloc (.cells #[.int .i64 1] 3)) := (Below.refl _ _).alloc (Nat.le_refl _) _
  refine (equalI_calls [1] [1] _ _ _ (HZ8.out.stays (keeps_of_below hb9)) (one_num w8 1)).mono ?_
  rintro e w10 ⟨rfl, n, rfl⟩
  have e5 : (([1] : List Int) == [1]) = true := rfl
  rw [e5]
  have HEND : Hid (Below w.heap.size w ((w8.alloc (.cells #[.int .i64 1] 3)).drewN n)) := below_drewN (HB8.out.alloc HB8.out.size _) n
  clear hb9
  go_wp2
  go_ret
  exact ⟨rfl, HEND.out⟩
end Go.Proofs.YtjjlkckhbhgmoaaGreat
