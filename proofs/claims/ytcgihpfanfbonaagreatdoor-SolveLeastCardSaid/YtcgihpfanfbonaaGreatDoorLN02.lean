/-
  chief.Acts and chief.For: who acts for whom. The map of names that were seen, as the reference counts them. Texts put together: strings.Join. Texts put together: plain laws of joinT. A text's bytes. Plain law: comparisons that are total; sorting by them; each once. Plain law of chief.Least: pairs in order, those right over another one. Plain law: by the fewest pairs the same act for the same; without one of them somebody doesn't. slices.IndexFunc and slices.ContainsFunc over texts, by whatever a function value tells of each. Plain law: with pairs more nobody acts for fewer.
-/
import Derived.Test.YtcgihpfanfbonaaGreatDoorLN01
import Derived.Test.YtcgihpfanfbonaaGreatDoorLN00
import Derived.ProofKit
import Derived.Maps.OwnOps
import Derived.Maps.Views
import Derived.Maps.OwnSet
import Derived.Test.YtcgihpfanfbonaaGreatDoorShelf
import Derived.Lib.Bytealg
import Derived.Lib.SlicesCompact
namespace Go.Proofs.YtcgihpfanfbonaaGreatDoor
open Go.RowKit
set_option linter.unusedVariables false
set_option linter.unusedSimpArgs false

/-- What a call owns, as data. -/
theorem SliceOf.of_owns {α : Type} {E : Enc α} {k : Nat} {w : World} {l : List α} {base : Nat} {e : TypeId} {v : Value} {xs : List Value} (h : w.ownsRow base e k v l.length xs)
    (hE : ∀ i (hi : i < l.length), ∃ vs, E w l[i] vs ∧ vs.length = k ∧ ∀ j x, vs[j]? = some x → xs[i * k + j]? = some x) : SliceOf E k w l v := by
  obtain ⟨hl, h⟩ := h
  rcases h with ⟨rfl, hn⟩ | ⟨g, cap, cur, rfl, _, hh, h1, h2, h3, h4⟩
  · exact ⟨none, 0, by rw [hn], by omega, by unfold maxLen; omega, Or.inl (List.length_eq_zero_iff.1 hn)⟩
  · refine ⟨_, cap, rfl, h1, h2, Or.inr ⟨g, 0, rfl, fun i hi => ?_⟩⟩
    obtain ⟨vs, e1, e2, e3⟩ := hE i hi
    refine ⟨vs, e1, e2, fun j x hx => ?_⟩
    have := e3 j x hx
    rw [← h4, List.getElem?_take] at this
    split at this
    · simpa [World.cell?, hh] using this
    · cases this
theorem Strs.of_owns {w : World} {l : List Txt} {base : Nat} {e : TypeId} {v : Value} (h : w.ownsRow base e 1 v l.length (l.map Value.string)) : Strs w l v :=
  SliceOf.of_owns h fun i hi => ⟨_, rfl, rfl, fun j x hx => by
    match j, hx with
    | 0, hx =>
      simp at hx
      subst hx
      simp [hi]⟩

theorem checkC_zero {l : List Txt} {acts : List (Txt × Txt)} (h : checkC l acts = 0) : l.length ≤ 6 ∧ acts.length ≤ 10 ∧ errNames l = 0 ∧ ∀ j (hj : j < acts.length), actOk l acts[j] = true := by
  unfold checkC at h
  split at h
  · omega
  · split at h
    · omega
    · split at h
      · rename_i h1 h2 h3
        rw [List.all_eq_true] at h3
        exact ⟨by omega, by omega, by omega, fun j hj => h3 _ (List.getElem_mem hj)⟩
      · omega
theorem idxOf_hasnt {l : List Txt} {x : Txt} (h : has l x = false) : idxOf l x = -1 := idxOf_miss fun j hj e => by
  have : has l x = true := has_iff.2 (List.mem_of_getElem? e)
  rw [h] at this; cases this

/-- Does one act for another one? Of right chiefs. -/
def actM (l : List Txt) (acts : List (Txt × Txt)) (a b : Txt) : Bool := closM l acts (idxOf l a).toNat (idxOf l b).toNat
def actsE (l : List Txt) (acts : List (Txt × Txt)) (a b : Txt) : Int := if checkC l acts ≠ 0 then checkC l acts else if has l a && has l b then 0 else 5
def actsB (l : List Txt) (acts : List (Txt × Txt)) (a b : Txt) : Bool := actsE l acts a b == 0 && actM l acts a b

theorem acts_bad {l : List Txt} {acts : List (Txt × Txt)} {a b : Txt} (h : checkC l acts ≠ 0) : actsE l acts a b = checkC l acts ∧ actsB l acts a b = false := by
  have : actsE l acts a b = checkC l acts := by unfold actsE; rw [if_pos h]
  refine ⟨this, ?_⟩
  unfold actsB; rw [this]; simp [h]
theorem acts_who {l : List Txt} {acts : List (Txt × Txt)} {a b : Txt} (h : checkC l acts = 0) (hw : (has l a && has l b) = false) : actsE l acts a b = 5 ∧ actsB l acts a b = false := by
  have : actsE l acts a b = 5 := by unfold actsE; rw [if_neg (by omega), hw]; rfl
  refine ⟨this, ?_⟩
  unfold actsB; rw [this]; rfl
theorem acts_ok {l : List Txt} {acts : List (Txt × Txt)} {a b : Txt} (h : checkC l acts = 0) (ha : has l a = true) (hb : has l b = true) : actsE l acts a b = 0 ∧ actsB l acts a b = actM l acts a b := by
  have : actsE l acts a b = 0 := by unfold actsE; rw [if_neg (by omega), ha, hb]; rfl
  refine ⟨this, ?_⟩
  unfold actsB; rw [this]; rfl


theorem Tryz.info_string : (Tryz.prog.info? 9).map (fun i => (i.zero, i.size, i.bytes)) = some (some (.string ByteArray.empty), 1, 16) := by kernel_rfl

/-- All that act for one. -/
def forL (l : List Txt) (acts : List (Txt × Txt)) (b : Txt) : List Txt := l.filter fun s => actM l acts s b
def forE (l : List Txt) (acts : List (Txt × Txt)) (b : Txt) : Int := if checkC l acts ≠ 0 then checkC l acts else if has l b then 0 else 5
def forR (l : List Txt) (acts : List (Txt × Txt)) (b : Txt) : List Txt := if forE l acts b = 0 then forL l acts b else []

theorem idxOf_at {l : List Txt} (h : errNames l = 0) {i : Nat} (hi : i < l.length) : idxOf l l[i] = i := by
  refine idxOf_hit hi rfl fun j hj => ?_
  rw [List.getElem?_eq_getElem (by omega)]
  intro e
  have e' : l[j] = l[i] := by simpa using e
  have hh : nameErr l i = 0 := by
    apply Decidable.byContradiction
    intro hne
    unfold errNames at h
    cases hf : (List.range l.length).find? (fun i => nameErr l i != 0) with
    | none =>
      rw [List.find?_range_eq_none] at hf
      have := hf i hi
      simp at this
      exact hne this
    | some m =>
      rw [hf] at h
      have := List.find?_some hf
      have h' : nameErr l m = 0 := h
      simp [h'] at this
  unfold nameErr at hh
  rw [getD_at hi] at hh
  split at hh
  · split at hh
    · omega
    · rename_i _ hn
      apply hn
      rw [has_iff]
      exact e' ▸ List.mem_take_iff_getElem.2 ⟨j, by omega, rfl⟩
  · omega

theorem Mat.below {w w' : World} {N n k : Nat} {X : Nat → Nat → Bool} (h : Mat w N n k X) (hb : Below w.heap.size w w') : Mat w' N n k X :=
  ⟨Nat.le_trans h.size hb.size, h.top.of_block (hb.block _ (by have := h.size; omega)), fun j hj => (h.rows j hj).of_block (hb.block _ (by have := h.size; omega))⟩

def forTo (l : List Txt) (acts : List (Txt × Txt)) (b : Txt) (k : Nat) : List Txt := (l.take k).filter fun s => actM l acts s b
theorem forTo_hit {l : List Txt} {acts : List (Txt × Txt)} {b : Txt} {k : Nat} (hk : k < l.length) (h : actM l acts l[k] b = true) : forTo l acts b (k + 1) = forTo l acts b k ++ [l[k]] := by
  unfold forTo; rw [List.take_succ_eq_append_getElem hk, List.filter_append]; simp [h]
theorem forTo_miss {l : List Txt} {acts : List (Txt × Txt)} {b : Txt} {k : Nat} (hk : k < l.length) (h : actM l acts l[k] b = false) : forTo l acts b (k + 1) = forTo l acts b k := by
  unfold forTo; rw [List.take_succ_eq_append_getElem hk, List.filter_append]; simp [h]
theorem forTo_le (l : List Txt) (acts : List (Txt × Txt)) (b : Txt) (k : Nat) : (forTo l acts b k).length ≤ k := by
  unfold forTo; exact Nat.le_trans (List.length_filter_le _ _) (List.length_take_le _ _)

set_option maxHeartbeats 1000000 in
set_option maxRecDepth 100000 in
theorem for_calls (l : List Txt) (acts : List (Txt × Txt)) (b : Txt) (v u : Value) (w : World) (hv : Strs w l v) (hu : Prs w acts u) :
    Calls Tryz.prog 60 #[v, u, .string b] w fun e w' => ∃ x, e = .returned (.tuple #[x, .int .i64 (forE l acts b)]) ∧ Strs w' (forR l acts b) x ∧ Below w.heap.size w w' := by
  have hv0 := hv
  have hu0 := hu
  by_cases hc : checkC l acts = 0
  · obtain ⟨z1, z2, z3, z4⟩ := checkC_zero hc
    have hc' : (checkC l acts == 0) = true := by simpa using hc
    have hc2 : (checkC l acts != 0) = false := by simpa using hc
    cases hb : has l b with
    | true =>
      have e1 : forE l acts b = 0 := by unfold forE; rw [if_neg (by omega), hb]; rfl
      have e2 : forR l acts b = forTo l acts b l.length := by unfold forR forTo forL; rw [if_pos e1, List.take_length]
      rw [e1, e2]
      obtain ⟨ib, k1, k2, _⟩ := idxOf_has hb
      have HA : Hid (∀ i (hi : i < l.length), actM l acts l[i] b = closM l acts i ib) := fun i hi => by unfold actM; rw [idxOf_at z3 hi, k1]; rfl
      have hI2 : ∀ w', Below w.heap.size w w' → Calls Tryz.prog 52 #[v, .string b] w' fun e w'' => e = .returned (.int .i64 ib) ∧ w'' = w' := fun w' hb' => by
        rw [← k1]; exact (index_calls l _ _ _ (hv0.stays (keeps_of_below hb'))).mono fun _ _ h => ⟨h.1, h.2.symm⟩
      have HI2 := Lib.hid hI2
      have HZ := Lib.hid z4
      clear hI2 k1 hb hc z3 z4 e1 e2
      obtain ⟨b0, o, c, p, rfl, hlc, hcm, hp, hcells⟩ := hv.cells
      obtain ⟨t0, hi, hz0, hz1, hz2⟩ := info_parts Tryz.info_string
      clear hv
      go_enter Tryz.func60, Tryz.ntmps60
      go_wp2_with (go_at_call 58; refine (check_calls l acts _ _ _ hv0 hu).mono ?_; rintro e w1 ⟨rfl, hb1⟩)
      refine (HI2.out _ hb1).mono ?_
      rintro e w3 ⟨rfl, rfl⟩
      go_wp2_with (fail)
      refine (closure_calls l acts _ _ _ (hv0.stays (keeps_of_below hb1)) (hu0.stays (keeps_of_below hb1)) z1 z2 HZ.out).mono ?_
      rintro e w4 ⟨rfl, hM, hb4⟩
      go_wp2
      go_loopw [11, 12, 13, 30] (fun x _ _ i wr => ∃ k : Nat, k ≤ l.length ∧ i = .int .i64 k ∧ Below w4.heap.size w4 wr ∧ wr.ownsRow w4.heap.size 9 1 x (forTo l acts b k).length ((forTo l acts b k).map Value.string)) (fun _ _ _ i _ => l.length - (intOf i).toNat)
      case atStart => exact ⟨0, Nat.zero_le _, rfl, Below.refl _ _, World.ownsRow_nil _ _ _ _⟩
      case round =>
        obtain ⟨k, hk, rfl, hbr, hown⟩ := hrel
        have hbw : Below w.heap.size w wr := (hb1.trans (hb4.mono hb1.size)).trans (hbr.mono (Nat.le_trans hb1.size hb4.size))
        by_cases hlt : k < l.length
        · have hcell0 := hcells k hlt
          have hcell : wr.cell? ⟨b0, o + k, none⟩ = some (.string l[k]) := (hbw.cell (cell_lt hcell0)).trans hcell0
          obtain rfl := hp (by omega)
          have hMr := hM.below hbr
          have hr := hMr.row hlt
          have hce := hMr.cell hlt k2
          have hle := forTo_le l acts b k
          have HB := Lib.hid hbr
          clear hp hcells hcell0 hMr
          cases hx : closM l acts k ib with
          | true =>
            rw [hx] at hce
            have HX : Hid (forTo l acts b (k + 1) = forTo l acts b k ++ [l[k]]) := forTo_hit hlt (by rw [HA.out k hlt]; exact hx)
            clear hx
            go_wp2_with (at_builtin; refine wpList_append_own _ rfl _ _ 22 rfl w4.heap.size 9 t0 (.string ByteArray.empty) 1 16 Tryz.underlying22 hi hz0 hz1 hz2 rfl (by decide) _ _ _ rfl (hown.alloc _) ⟨wr.heap.size, 0, none⟩ 1 1 [.string l[k]] rfl rfl ?c1 ?c2 ?c3 ?c4 ?c5 ?_)
            case c1 =>
              intro j u hj
              match j, hj with
              | 0, hj => simp at hj; subst hj; simp [Addr.add]
            case c2 => intro u hu; simp at hu; subst hu; rfl
            case c3 => unfold maxLen; omega
            case c4 => omega
            case c5 => have := hbr.size; simp; omega
            · intro v' w5 hown' hgrow _
              go_wp2
              go_roundw
              case rel =>
                refine ⟨k + 1, by omega, by go_num, (HB.out.alloc HB.out.size _).grown hgrow (by have := HB.out.size; simp; omega) (fun q hq => (hown.lt q hq).1), ?_⟩
                rw [HX.out]
                simpa using hown'
              case measure => simp [intOf]; omega
          | false =>
            rw [hx] at hce
            have HX : Hid (forTo l acts b (k + 1) = forTo l acts b k) := forTo_miss hlt (by rw [HA.out k hlt]; exact hx)
            clear hx
            go_wp2
            go_roundw
            case rel => exact ⟨k + 1, by omega, by go_num, HB.out, by rw [HX.out]; exact hown⟩
            case measure => simp [intOf]; omega
        · obtain rfl : k = l.length := by omega
          clear hp hcells
          go_wp2
          go_ret2
          exact ⟨_, rfl, Strs.of_owns hown, hbw⟩
    | false =>
      have e1 : forE l acts b = 5 := by unfold forE; rw [if_neg (by omega), hb]; rfl
      have e2 : forR l acts b = [] := by unfold forR; rw [if_neg (by omega)]
      rw [e1, e2]
      have k1 := idxOf_hasnt hb
      have hI2 : ∀ w', Below w.heap.size w w' → Calls Tryz.prog 52 #[v, .string b] w' fun e w'' => e = .returned (.int .i64 (-1)) ∧ w'' = w' := fun w' hb' => by
        rw [← k1]; exact (index_calls l _ _ _ (hv0.stays (keeps_of_below hb'))).mono fun _ _ h => ⟨h.1, h.2.symm⟩
      have HI2 := Lib.hid hI2
      clear hI2 k1 hb hc z3 z4 e1 e2
      go_enter Tryz.func60, Tryz.ntmps60
      go_wp2_with (go_at_call 58; refine (check_calls l acts _ _ _ hv hu).mono ?_; rintro e w1 ⟨rfl, hb1⟩)
      refine (HI2.out _ hb1).mono ?_
      rintro e w3 ⟨rfl, rfl⟩
      go_wp2
      go_ret2
      exact ⟨_, rfl, ⟨none, 0, rfl, by simp, by unfold maxLen; omega, Or.inl rfl⟩, hb1⟩
  · have e1 : forE l acts b = checkC l acts := by unfold forE; rw [if_pos hc]
    have e2 : forR l acts b = [] := by unfold forR; rw [if_neg (by omega)]
    rw [e1, e2]
    have hc' : (checkC l acts == 0) = false := by simpa using hc
    have hc2 : (checkC l acts != 0) = true := by simpa using hc
    clear e1 e2
    go_enter Tryz.func60, Tryz.ntmps60
    go_wp2_with (go_at_call 58; refine (check_calls l acts _ _ _ hv hu).mono ?_; rintro e w1 ⟨rfl, hb1⟩)
    go_ret2
    exact ⟨_, rfl, ⟨none, 0, rfl, by simp, by unfold maxLen; omega, Or.inl rfl⟩, hb1⟩
end Go.Proofs.YtcgihpfanfbonaaGreatDoor
namespace Go.Proofs.YtcgihpfanfbonaaGreatDoor
open Go.RowKit Go.Maps Go.WideMaps Go.WideElems Go.WideShapes
set_option linter.unusedVariables false
set_option linter.unusedSimpArgs false

def keyS (s : Txt) : Lit := .string s.data.toList
theorem law_str : Keyed Tryz.prog 9 := string_keyed Tryz.underlying9
theorem key_str {s : Txt} (h : okTxt s) : keyOf Tryz.prog 9 (.string s) = some (keyS s) := keyOf_string_mk Tryz.underlying9 (by unfold okTxt at h; unfold maxLen; omega)
theorem zero_int (w : World) : (zeroValue 3).run Tryz.prog w = .ok (.int .i64 0) w := by kernel_rfl
theorem keyS_inj {a b : Txt} (h : keyS a = keyS b) : a = b := by
  unfold keyS at h
  simp only [Lit.string.injEq] at h
  cases a; cases b
  congr
  exact Array.toList_inj.1 h
/-- Each of these names was seen once, and no other. -/
def SeenD (D : DataW Unit) (l : List Txt) : Prop := ∀ x, D.atKey (keyS x) (.lit (.int .i64 0)) = .lit (.int .i64 (if has l x then 1 else 0))
theorem SeenD.start : SeenD (.map []) [] := fun x => rfl
theorem SeenD.add {D : DataW Unit} {l : List Txt} {s : Txt} (h : SeenD D l) (hm : IsMap D) (hs : has l s = false) : SeenD (D.put (keyS s) (.lit (.int .i64 1))) (l ++ [s]) := fun x => by
  by_cases e : x = s
  · subst e
    rw [atKey_put_same hm (by trivial)]
    have : has (l ++ [x]) x = true := has_iff.2 (by simp)
    rw [this]
    rfl
  · rw [atKey_put_other (fun h => e (keyS_inj h)), h x]
    have : has (l ++ [s]) x = has l x := by
      rw [Bool.eq_iff_iff, has_iff, has_iff]
      simp [e]
    rw [this]
/-- What is read at a name. -/
theorem SeenD.at {D : DataW Unit} {l : List Txt} (h : SeenD D l) {x : Txt} {c : Int} (hat : D.atKey (keyS x) (.lit (.int .i64 0)) = .lit (.int .i64 c)) : c = if has l x then 1 else 0 := by
  rw [h x] at hat
  simp at hat
  exact hat.symm
end Go.Proofs.YtcgihpfanfbonaaGreatDoor
namespace Go.Proofs.YtcgihpfanfbonaaGreatDoor
open Go.RowKit
set_option linter.unusedVariables false
set_option linter.unusedSimpArgs false

def bytesT (l : List UInt8) : Txt := ⟨l.toArray⟩
/-- Texts with one between each two. -/
def joinT (l : List Txt) (sep : Txt) : Txt := bytesT (Lib.join (l.map (·.data.toList)) sep.data.toList)
theorem join_calls (l : List Txt) (sep : Txt) (v : Value) (w : World) (h : Strs w l v) (hl : (Lib.join (l.map (·.data.toList)) sep.data.toList).length ≤ 140737488355328) (hn : l.length ≤ 140737488355328) :
    Calls Tryz.prog 45 #[v, .string sep] w fun e w' => e = .returned (.string (joinT l sep)) ∧ Below w.heap.size w w' := by
  obtain ⟨b, o, c, p, rfl, hlc, hc, hp, hcells⟩ := h.cells
  by_cases h0 : l.length = 0
  · have e : l = [] := List.length_eq_zero_iff.1 h0
    subst e
    refine (Tryz.strings_Join_none p c sep w).mono ?_
    rintro e w' ⟨rfl, rfl⟩
    exact ⟨rfl, Below.refl _ _⟩
  · obtain rfl := hp (by omega)
    exact Tryz.strings_Join b o c l sep w (fun j x hx => by
      obtain ⟨hj, rfl⟩ := List.getElem?_eq_some_iff.1 hx
      exact hcells j hj) (cell_lt (hcells 0 (by omega))) hn hlc hl
end Go.Proofs.YtcgihpfanfbonaaGreatDoor
namespace Go.Proofs.YtcgihpfanfbonaaGreatDoor
open Go.RowKit
set_option linter.unusedVariables false
set_option linter.unusedSimpArgs false

theorem bytesT_append (a b : List UInt8) : bytesT (a ++ b) = bytesT a ++ bytesT b := by
  unfold bytesT; rw [ByteArray.mk_append_mk]
theorem bytesT_data (s : Txt) : bytesT s.data.toList = s := by
  cases s; simp [bytesT]
theorem joinT_nil (sep : Txt) : joinT [] sep = ByteArray.empty := rfl
theorem joinT_one (y sep : Txt) : joinT [y] sep = y := by
  unfold joinT; rw [List.map_cons, List.map_nil, Lib.join_one, bytesT_data]
theorem joinT_snoc (l : List Txt) (y sep : Txt) (h : l ≠ []) : joinT (l ++ [y]) sep = joinT l sep ++ sep ++ y := by
  cases l with
  | nil => exact absurd rfl h
  | cons x l =>
    unfold joinT
    rw [List.cons_append, List.map_cons, List.map_cons, Lib.join_cons, Lib.join_cons, List.map_append, List.map_cons, List.map_nil]
    unfold Lib.joinTail
    rw [List.map_append, List.flatten_append]
    simp only [List.map_cons, List.map_nil, List.flatten_cons, List.flatten_nil, List.append_nil, bytesT_append, bytesT_data, ByteArray.append_assoc]
theorem empty_append (s : Txt) : ByteArray.empty ++ s = s := by simp
theorem join_len (l : List Txt) (sep : Txt) (m : Nat) (h : ∀ s ∈ l, s.size ≤ m) : (Lib.join (l.map (·.data.toList)) sep.data.toList).length ≤ l.length * (m + sep.size) := by
  cases l with
  | nil => simp [Lib.join_nil]
  | cons x l =>
    rw [List.map_cons, Lib.join_cons]
    have hx : x.data.toList.length ≤ m := h x (by simp)
    have : ∀ (l : List Txt), (∀ s ∈ l, s.size ≤ m) → (Lib.joinTail sep.data.toList (l.map (·.data.toList))).length ≤ l.length * (m + sep.size) := by
      intro l
      induction l with
      | nil => intro _; simp [Lib.joinTail]
      | cons y l ih =>
        intro h
        have h1 : y.data.toList.length ≤ m := h y (by simp)
        have h2 := ih fun s hs => h s (by simp [hs])
        have h3 : sep.data.toList.length = sep.size := Array.length_toList
        simp only [Lib.joinTail, List.map_cons, List.flatten_cons, List.length_append, List.length_cons, Nat.add_mul] at h2 ⊢
        omega
    have h2 := this l fun s hs => h s (by simp [hs])
    simp only [List.length_append, List.length_cons, Nat.add_mul]
    omega
theorem joinT_size (l : List Txt) (sep : Txt) : (joinT l sep).size = (Lib.join (l.map (·.data.toList)) sep.data.toList).length := by
  exact List.size_toArray
end Go.Proofs.YtcgihpfanfbonaaGreatDoor
namespace Go.Proofs.YtcgihpfanfbonaaGreatDoor
open Go.RowKit
set_option linter.unusedVariables false
set_option linter.unusedSimpArgs false

/-- The bytes from a place on. -/
def bytesOf (s : Txt) : List UInt8 := s.data.toList
theorem bytesOf_len (s : Txt) : (bytesOf s).length = s.size := by unfold bytesOf; rw [Array.length_toList]; rfl
theorem bytesOf_at (s : Txt) (k : Nat) (h : k < s.size) : (bytesOf s)[k]'(by rw [bytesOf_len]; exact h) = s[k] := by
  unfold bytesOf
  simp [ByteArray.getElem_eq_getElem_data]
theorem bytesOf_append (a b : Txt) : bytesOf (a ++ b) = bytesOf a ++ bytesOf b := by
  unfold bytesOf; rw [ByteArray.data_append, Array.toList_append]
theorem txt_ext {a b : Txt} (h : bytesOf a = bytesOf b) : a = b := by
  cases a; cases b
  unfold bytesOf at h
  simpa using h
theorem bytesOf_extract (s : Txt) (a e : Nat) : bytesOf (s.extract a e) = ((bytesOf s).drop a).take (e - a) := by
  unfold bytesOf
  rw [ByteArray.data_extract, Array.toList_extract]
/-- The text of some bytes. -/
def txtOf (l : List UInt8) : Txt := ⟨l.toArray⟩
theorem bytesOf_txtOf (l : List UInt8) : bytesOf (txtOf l) = l := by unfold bytesOf txtOf; simp
theorem txtOf_size (l : List UInt8) : (txtOf l).size = l.length := by rw [← bytesOf_len, bytesOf_txtOf]
theorem txtOf_bytes (t : Txt) : txtOf (bytesOf t) = t := txt_ext (bytesOf_txtOf _)
end Go.Proofs.YtcgihpfanfbonaaGreatDoor
namespace Go.Proofs.YtcgihpfanfbonaaGreatDoor
open Go.RowKit
set_option linter.unusedVariables false
set_option linter.unusedSimpArgs false

/-- A comparison that parts all that are two. -/
structure Tot {α : Type} (f : α → α → Int) : Prop where
  zero : ∀ a b, f a b = 0 ↔ a = b
  anti : ∀ a b, f b a = - f a b
  trans : ∀ a b c, f a b < 0 → f b c < 0 → f a c < 0

def lexC {α : Type} (f : α → α → Int) : List α → List α → Int
  | [], [] => 0
  | [], _ :: _ => -1
  | _ :: _, [] => 1
  | a :: as1, b :: bs => if f a b = 0 then lexC f as1 bs else f a b
def pairC {α β : Type} (f : α → α → Int) (g : β → β → Int) (x y : α × β) : Int := if f x.1 y.1 = 0 then g x.2 y.2 else f x.1 y.1

theorem Tot.lex {α : Type} {f : α → α → Int} (h : Tot f) : Tot (lexC f) := by
  refine ⟨?_, ?_, ?_⟩
  · intro a
    induction a with
    | nil => intro b; cases b <;> simp [lexC]
    | cons x a ih =>
      intro b
      cases b with
      | nil => simp [lexC]
      | cons y b =>
        unfold lexC
        by_cases e : f x y = 0
        · rw [if_pos e, ih, (h.zero x y).1 e]; simp
        · rw [if_neg e]
          constructor
          · intro e'; exact absurd e' e
          · intro e'
            injection e' with e1 e2
            exact absurd ((h.zero x y).2 e1) e
  · intro a
    induction a with
    | nil => intro b; cases b <;> simp [lexC]
    | cons x a ih =>
      intro b
      cases b with
      | nil => simp [lexC]
      | cons y b =>
        unfold lexC
        have := h.anti x y
        by_cases e : f x y = 0
        · rw [if_pos e, if_pos (by omega), ih]
        · rw [if_neg e, if_neg (by omega), this]
  · intro a
    induction a with
    | nil =>
      intro b c h1 h2
      cases b with
      | nil => simp [lexC] at h1
      | cons y b =>
        cases c with
        | nil => simp [lexC] at h2
        | cons z c => simp [lexC]
    | cons x a ih =>
      intro b c h1 h2
      cases b with
      | nil => simp [lexC] at h1
      | cons y b =>
        cases c with
        | nil => simp [lexC] at h2
        | cons z c =>
          unfold lexC at h1 h2 ⊢
          by_cases e1 : f x y = 0
          · rw [if_pos e1] at h1
            have exy := (h.zero x y).1 e1
            subst exy
            by_cases e2 : f x z = 0
            · rw [if_pos e2] at h2 ⊢
              exact ih _ _ h1 h2
            · rw [if_neg e2] at h2 ⊢
              exact h2
          · rw [if_neg e1] at h1
            by_cases e2 : f y z = 0
            · have eyz := (h.zero y z).1 e2
              subst eyz
              rw [if_neg e1]; exact h1
            · rw [if_neg e2] at h2
              have := h.trans x y z h1 h2
              rw [if_neg (by omega)]; exact this
theorem Tot.pair {α β : Type} {f : α → α → Int} {g : β → β → Int} (h : Tot f) (k : Tot g) : Tot (pairC f g) := by
  refine ⟨?_, ?_, ?_⟩
  · intro a b
    unfold pairC
    by_cases e : f a.1 b.1 = 0
    · rw [if_pos e, k.zero]
      have := (h.zero _ _).1 e
      constructor
      · intro e2; exact Prod.ext this e2
      · intro e2; rw [e2]
    · rw [if_neg e]
      constructor
      · intro e2; exact absurd e2 e
      · intro e2; exact absurd ((h.zero _ _).2 (by rw [e2])) e
  · intro a b
    unfold pairC
    have := h.anti a.1 b.1
    by_cases e : f a.1 b.1 = 0
    · rw [if_pos e, if_pos (by omega), k.anti]
    · rw [if_neg e, if_neg (by omega), this]
  · intro a b c h1 h2
    unfold pairC at *
    by_cases e1 : f a.1 b.1 = 0
    · rw [if_pos e1] at h1
      rw [(h.zero _ _).1 e1]
      by_cases e2 : f b.1 c.1 = 0
      · rw [if_pos e2] at h2 ⊢
        exact k.trans _ _ _ h1 h2
      · rw [if_neg e2] at h2 ⊢
        exact h2
    · rw [if_neg e1] at h1
      by_cases e2 : f b.1 c.1 = 0
      · rw [← (h.zero _ _).1 e2, if_neg e1]; exact h1
      · rw [if_neg e2] at h2
        have := h.trans _ _ _ h1 h2
        rw [if_neg (by omega)]; exact this
def byteC (a b : UInt8) : Int := if a.toNat < b.toNat then -1 else if b.toNat < a.toNat then 1 else 0
theorem byteC_tot : Tot byteC := by
  refine ⟨?_, ?_, ?_⟩
  · intro a b
    unfold byteC
    constructor
    · intro h
      split at h
      · cases h
      · split at h
        · cases h
        · exact UInt8.toNat_inj.1 (by omega)
    · intro e; subst e; simp
  · intro a b
    unfold byteC
    split <;> split <;> first | rfl | omega
  · intro a b c h1 h2
    unfold byteC at *
    split at h1
    · split at h2
      · rw [if_pos (by omega)]; decide
      · split at h2 <;> omega
    · split at h1 <;> omega
theorem compareBytes_lex : ∀ a b : List UInt8, Lib.compareBytes a b = lexC byteC a b
  | [], [] => rfl
  | [], _ :: _ => rfl
  | _ :: _, [] => rfl
  | a :: as1, b :: bs => by
    unfold Lib.compareBytes lexC byteC
    by_cases h1 : a < b
    · have h1' := UInt8.lt_iff_toNat_lt.1 h1
      rw [if_pos h1, if_pos h1']; rfl
    · have h1' : ¬ a.toNat < b.toNat := fun h => h1 (UInt8.lt_iff_toNat_lt.2 h)
      by_cases h2 : b < a
      · have h2' := UInt8.lt_iff_toNat_lt.1 h2
        rw [if_neg h1, if_neg h1', if_pos h2, if_pos h2']; rfl
      · have h2' : ¬ b.toNat < a.toNat := fun h => h2 (UInt8.lt_iff_toNat_lt.2 h)
        rw [if_neg h1, if_neg h1', if_neg h2, if_neg h2', if_pos rfl]
        exact compareBytes_lex as1 bs
/-- Texts compared. -/
def cmpT (a b : Txt) : Int := Lib.compareBytes (bytesOf a) (bytesOf b)
theorem cmpT_tot : Tot cmpT := by
  have h := byteC_tot.lex
  refine ⟨fun a b => ?_, fun a b => ?_, fun a b c => ?_⟩
  · unfold cmpT
    rw [compareBytes_lex, h.zero]
    exact ⟨txt_ext, fun e => by rw [e]⟩
  · unfold cmpT
    rw [compareBytes_lex, compareBytes_lex, h.anti]
  · unfold cmpT
    rw [compareBytes_lex, compareBytes_lex, compareBytes_lex]
    exact h.trans _ _ _
theorem compareBytes_lt (a b : List UInt8) : Lib.compareBytes a b < 0 ↔ a < b := by
  induction a generalizing b with
  | nil => cases b <;> simp [Lib.compareBytes]
  | cons x a ih =>
    cases b with
    | nil => simp [Lib.compareBytes]
    | cons y b =>
      unfold Lib.compareBytes
      rw [List.cons_lt_cons_iff]
      by_cases h1 : x < y
      · rw [if_pos h1]; simp [h1]
      · by_cases h2 : y < x
        · rw [if_neg h1, if_pos h2]
          have : x ≠ y := fun e => by subst e; exact h1 h2
          simp [h1, this]
        · rw [if_neg h1, if_neg h2, ih]
          have : x = y := by
            rw [UInt8.lt_iff_toNat_lt] at h1 h2
            exact UInt8.toNat_inj.1 (by omega)
          simp [this]

/-- Rising, each once. -/
abbrev Rising {α : Type} (f : α → α → Int) (l : List α) : Prop := l.Pairwise fun x y => f x y < 0
/-- Rising. -/
abbrev Upward {α : Type} (f : α → α → Int) (l : List α) : Prop := l.Pairwise fun x y => f x y ≤ 0
section
variable {α : Type} {f : α → α → Int}
theorem Tot.le_trans (h : Tot f) {a b c : α} (h1 : f a b ≤ 0) (h2 : f b c ≤ 0) : f a c ≤ 0 := by
  by_cases e1 : f a b = 0
  · rw [(h.zero a b).1 e1]; exact h2
  · by_cases e2 : f b c = 0
    · rw [← (h.zero b c).1 e2]; exact h1
    · have := h.trans a b c (by omega) (by omega); omega
theorem Tot.le_antisymm (h : Tot f) {a b : α} (h1 : f a b ≤ 0) (h2 : f b a ≤ 0) : a = b := by
  have := h.anti a b
  exact (h.zero a b).1 (by omega)
theorem Tot.self (h : Tot f) (a : α) : f a a = 0 := (h.zero a a).2 rfl
theorem Tot.unique (h : Tot f) {l m : List α} (hp : l.Perm m) (hl : Upward f l) (hm : Upward f m) : l = m :=
  List.Perm.eq_of_pairwise (le := fun x y => f x y ≤ 0) (fun a b _ _ h1 h2 => h.le_antisymm h1 h2) hl hm hp
def srt (f : α → α → Int) (l : List α) : List α := l.mergeSort fun x y => decide (f x y ≤ 0)
theorem Tot.srt_up (h : Tot f) (l : List α) : Upward f (srt f l) := by
  have := List.pairwise_mergeSort (le := fun x y => decide (f x y ≤ 0)) (fun a b c h1 h2 => by simp at *; exact h.le_trans h1 h2) (fun a b => by have := h.anti a b; simp; omega) l
  exact this.imp fun h => by simpa using h
theorem srt_perm (f : α → α → Int) (l : List α) : (srt f l).Perm l := List.mergeSort_perm _ _
theorem srt_of_up {l : List α} (hl : Upward f l) : srt f l = l := List.mergeSort_of_pairwise (hl.imp fun h => by simpa using h)
theorem mem_srt {a : α} {l : List α} : a ∈ srt f l ↔ a ∈ l := List.mem_mergeSort
theorem Rising.up {l : List α} (h : Rising f l) : Upward f l := h.imp fun h => by omega
theorem Tot.nodup (h : Tot f) {l : List α} (hl : Rising f l) : l.Nodup := by
  rw [List.nodup_iff_pairwise_ne]
  exact hl.imp fun {a b} hab e => by subst e; rw [h.self] at hab; omega

variable [DecidableEq α]
/-- Each that is another one than that ahead of it. -/
def dedupFrom (p : α) : List α → List α
  | [] => []
  | x :: l => if x = p then dedupFrom p l else x :: dedupFrom x l
def dedup : List α → List α
  | [] => []
  | x :: l => x :: dedupFrom x l
theorem mem_dedupFrom {a p : α} {l : List α} : a ∈ p :: dedupFrom p l ↔ a ∈ p :: l := by
  induction l generalizing p with
  | nil => rfl
  | cons x l ih =>
    unfold dedupFrom
    by_cases e : x = p
    · rw [if_pos e, ih]
      subst e
      simp
    · rw [if_neg e]
      have := ih (p := x)
      simp only [List.mem_cons] at this ⊢
      rw [this]
theorem mem_dedup {a : α} {l : List α} : a ∈ dedup l ↔ a ∈ l := by
  cases l with
  | nil => rfl
  | cons x l => exact mem_dedupFrom
theorem Tot.dedupFrom_rising (h : Tot f) {p : α} {l : List α} (hl : Upward f (p :: l)) : Rising f (p :: dedupFrom p l) := by
  induction l generalizing p with
  | nil => simp [dedupFrom]
  | cons x l ih =>
    unfold dedupFrom
    obtain ⟨h1, h2⟩ := List.pairwise_cons.1 hl
    by_cases e : x = p
    · rw [if_pos e]
      subst e
      exact ih h2
    · rw [if_neg e]
      have hr := ih h2
      refine List.pairwise_cons.2 ⟨fun a ha => ?_, hr⟩
      have ha' := (mem_dedupFrom).1 ha
      have hle := h1 a ha'
      have hpx : f p x < 0 := by
        have h3 := h1 x (by simp)
        have h4 : f p x ≠ 0 := fun e' => e ((h.zero p x).1 e').symm
        omega
      rcases List.mem_cons.1 ha with rfl | ha2
      · exact hpx
      · have hxa := (List.pairwise_cons.1 hr).1 a ha2
        exact h.trans _ _ _ hpx hxa
theorem Tot.dedup_rising (h : Tot f) {l : List α} (hl : Upward f l) : Rising f (dedup l) := by
  cases l with
  | nil => exact List.Pairwise.nil
  | cons x l => exact h.dedupFrom_rising hl
theorem dedupFrom_self (h : Tot f) {p : α} {l : List α} (hl : Rising f (p :: l)) : dedupFrom p l = l := by
  induction l generalizing p with
  | nil => rfl
  | cons x l ih =>
    replace hl := List.pairwise_cons.1 hl
    unfold dedupFrom
    rw [if_neg (fun e => by subst e; have := hl.1 x (by simp); rw [h.self] at this; omega), ih hl.2]
theorem dedup_self (h : Tot f) {l : List α} (hl : Rising f l) : dedup l = l := by
  cases l with
  | nil => rfl
  | cons x l => show x :: dedupFrom x l = _; rw [dedupFrom_self h hl]
/-- What is kept of the first so many, by places. -/
def keptTo (l : List α) (m : Nat) : List α := ((List.range m).filter fun j => decide (j = 0 ∨ l[j]? ≠ l[j - 1]?)).filterMap fun j => l[j]?
theorem keptTo_succ (l : List α) (m : Nat) : keptTo l (m + 1) = keptTo l m ++ (if m = 0 ∨ l[m]? ≠ l[m - 1]? then l[m]?.toList else []) := by
  unfold keptTo
  rw [List.range_succ, List.filter_append, List.filterMap_append]
  congr 1
  by_cases h : m = 0 ∨ l[m]? ≠ l[m - 1]?
  · rw [if_pos h, show ([m].filter fun j => decide (j = 0 ∨ l[j]? ≠ l[j - 1]?)) = [m] by simp only [List.filter_cons, List.filter_nil]; rw [if_pos (decide_eq_true h)]]
    simp only [List.filterMap_cons, List.filterMap_nil]
    cases l[m]? <;> rfl
  · rw [if_neg h, show ([m].filter fun j => decide (j = 0 ∨ l[j]? ≠ l[j - 1]?)) = [] by simp only [List.filter_cons, List.filter_nil]; rw [if_neg (by rw [decide_eq_false h]; decide)]]
    rfl
theorem dedupFrom_snoc {p x : α} {l : List α} : dedupFrom p (l ++ [x]) = dedupFrom p l ++ (if (p :: l).getLast? = some x then [] else [x]) := by
  induction l generalizing p with
  | nil =>
    simp only [List.nil_append, dedupFrom]
    by_cases e : x = p
    · subst e; simp
    · rw [if_neg e, if_neg (by simpa using fun e' => e e'.symm)]
  | cons y l ih =>
    rw [List.cons_append]
    unfold dedupFrom
    by_cases e : y = p
    · rw [if_pos e, if_pos e, ih]
      subst e
      simp
    · rw [if_neg e, if_neg e, ih, List.cons_append]
      congr 2
theorem dedup_snoc {x : α} {l : List α} : dedup (l ++ [x]) = dedup l ++ (if l.getLast? = some x then [] else [x]) := by
  cases l with
  | nil => rfl
  | cons y l =>
    show y :: dedupFrom y (l ++ [x]) = (y :: dedupFrom y l) ++ _
    rw [dedupFrom_snoc]
    rfl
theorem keptTo_dedup (l : List α) : ∀ m, m ≤ l.length → keptTo l m = dedup (l.take m)
  | 0, _ => rfl
  | m + 1, h => by
    rw [keptTo_succ, keptTo_dedup l m (by omega), List.take_succ_eq_append_getElem (by omega), dedup_snoc]
    congr 1
    rw [List.getElem?_eq_getElem (by omega)]
    cases m with
    | zero => simp
    | succ m =>
      have e : (l.take (m + 1)).getLast? = some l[m] := by
        rw [List.getLast?_eq_getElem?, List.length_take, Nat.min_eq_left (by omega)]
        simp [List.getElem?_take]
      rw [e, show m + 1 - 1 = m from rfl, List.getElem?_eq_getElem (by omega)]
      by_cases e2 : l[m] = l[m + 1]
      · simp [e2]
      · have e3 : ¬ l[m + 1] = l[m] := fun e => e2 e.symm
        simp [e2, e3]
theorem keptTo_all (l : List α) : keptTo l l.length = dedup l := by rw [keptTo_dedup l _ (Nat.le_refl _), List.take_length]
theorem compact_dedup [Inhabited α] (l : List α) : Lib.compact l = dedup l := by
  rw [← keptTo_all]
  unfold Lib.compact
  have : ∀ m, m ≤ l.length → Lib.compactUpTo l.toArray m = keptTo l m := by
    intro m
    induction m with
    | zero => intro _; rfl
    | succ m ih =>
      intro h
      rw [Lib.compactUpTo_succ, keptTo_succ, ih (by omega)]
      congr 1
      unfold Lib.keeps
      have e1 : l.toArray[m]! = l[m] := by simp [getElem!_pos, show m < l.length by omega]
      have e2 : l.toArray[m - 1]! = l[m - 1] := by simp [getElem!_pos, show m - 1 < l.length by omega]
      rw [e1, e2, List.getElem?_eq_getElem (by omega), List.getElem?_eq_getElem (by omega)]
      simp
  exact this _ (Nat.le_refl _)
end
/-- Two rising lists, the one's members among the other's. -/
theorem Tot.sublist {α : Type} {f : α → α → Int} (h : Tot f) : ∀ {l m : List α}, Rising f l → Rising f m → (∀ x ∈ l, x ∈ m) → l.Sublist m
  | [], _, _, _, _ => List.nil_sublist _
  | x :: l, [], _, _, hs => by have := hs x (by simp); cases this
  | x :: l, y :: m, hl, hm, hs => by
    replace hl := List.pairwise_cons.1 hl
    replace hm := List.pairwise_cons.1 hm
    rcases List.mem_cons.1 (hs x (by simp)) with e | hx
    · subst e
      refine List.Sublist.cons_cons _ (h.sublist hl.2 hm.2 fun z hz => ?_)
      rcases List.mem_cons.1 (hs z (List.mem_cons_of_mem _ hz)) with e | hz2
      · subst e
        have := hl.1 z hz
        rw [h.self] at this; omega
      · exact hz2
    · refine List.Sublist.cons _ (h.sublist (List.pairwise_cons.2 hl) hm.2 fun z hz => ?_)
      have hyx : f y x < 0 := hm.1 x hx
      have hyz : f y z < 0 := by
        rcases List.mem_cons.1 hz with e | hz2
        · rw [e]; exact hyx
        · exact h.trans _ _ _ hyx (hl.1 z hz2)
      rcases List.mem_cons.1 (hs z hz) with e | hz2
      · subst e; rw [h.self] at hyz; omega
      · exact hz2
/-- All lists that are left of one when some of it is left out. -/
def subs {α : Type} : List α → List (List α)
  | [] => [[]]
  | x :: l => subs l ++ (subs l).map (x :: ·)
theorem subs_length {α : Type} : ∀ l : List α, (subs l).length = 2 ^ l.length
  | [] => rfl
  | x :: l => by
    unfold subs
    rw [List.length_append, List.length_map, subs_length l, List.length_cons, Nat.pow_succ]; omega
theorem mem_subs {α : Type} {l m : List α} (h : l.Sublist m) : l ∈ subs m := by
  induction h with
  | slnil => simp [subs]
  | cons a h ih => unfold subs; exact List.mem_append_left _ ih
  | cons_cons a h ih => unfold subs; exact List.mem_append_right _ (List.mem_map.2 ⟨_, ih, rfl⟩)
end Go.Proofs.YtcgihpfanfbonaaGreatDoor
namespace Go.Proofs.YtcgihpfanfbonaaGreatDoor
set_option linter.unusedVariables false
set_option linter.unusedSimpArgs false

def overM (M : Nat → Nat → Bool) (i k : Nat) : Bool := i != k && M i k
def betwM (M : Nat → Nat → Bool) (i k j : Nat) : Bool := j != i && j != k && M i j && M j k
def coverM (M : Nat → Nat → Bool) (n i k : Nat) : Bool := overM M i k && !(List.range n).any (betwM M i k)
def badM (M : Nat → Nat → Bool) (i k : Nat) : Bool := overM M i k && M k i
/-- The pairs of numbers ahead of one, row by row. -/
def ahead (n i k : Nat) : List (Nat × Nat) := (List.range i).flatMap (fun a => (List.range n).map fun c => (a, c)) ++ (List.range k).map fun c => (i, c)
theorem ahead_zero (n : Nat) : ahead n 0 0 = [] := by simp [ahead]
theorem ahead_succ (n i k : Nat) : ahead n i (k + 1) = ahead n i k ++ [(i, k)] := by
  simp [ahead, List.range_succ]
theorem ahead_row (n i : Nat) : ahead n i n = ahead n (i + 1) 0 := by
  simp [ahead, List.range_succ]
theorem mem_ahead {n i k a c : Nat} : (a, c) ∈ ahead n i k ↔ (a < i ∧ c < n) ∨ (a = i ∧ c < k) := by
  simp only [ahead, List.mem_append, List.mem_flatMap, List.mem_range, List.mem_map, Prod.mk.injEq]
  constructor
  · rintro (⟨x, hx, y, hy, rfl, rfl⟩ | ⟨y, hy, rfl, rfl⟩)
    · exact .inl ⟨hx, hy⟩
    · exact .inr ⟨rfl, hy⟩
  · rintro (⟨h1, h2⟩ | ⟨rfl, h2⟩)
    · exact .inl ⟨a, h1, c, h2, rfl, rfl⟩
    · exact .inr ⟨c, h2, rfl, rfl⟩
def nameAt (l : List Txt) (i : Nat) : Txt := l.getD i ByteArray.empty
/-- The pairs that were told so far. -/
def leastTo (l : List Txt) (M : Nat → Nat → Bool) (i k : Nat) : List (Txt × Txt) := ((ahead l.length i k).filter fun x => coverM M l.length x.1 x.2).map fun x => (nameAt l x.1, nameAt l x.2)
theorem leastTo_hit {l : List Txt} {M : Nat → Nat → Bool} {i k : Nat} (h : coverM M l.length i k = true) : leastTo l M i (k + 1) = leastTo l M i k ++ [(nameAt l i, nameAt l k)] := by
  simp [leastTo, ahead_succ, List.filter_append, h]
theorem leastTo_miss {l : List Txt} {M : Nat → Nat → Bool} {i k : Nat} (h : coverM M l.length i k = false) : leastTo l M i (k + 1) = leastTo l M i k := by
  simp [leastTo, ahead_succ, List.filter_append, h]
theorem leastTo_le (l : List Txt) (M : Nat → Nat → Bool) (i k : Nat) (hi : i ≤ l.length) (hk : k ≤ l.length) : (leastTo l M i k).length ≤ l.length * l.length + l.length := by
  unfold leastTo
  rw [List.length_map]
  refine Nat.le_trans (List.length_filter_le _ _) ?_
  simp only [ahead, List.length_append, List.length_flatMap, List.length_map, List.length_range]
  have : ((List.range i).map fun _ => l.length).sum = i * l.length := by simp [List.map_const', List.sum_replicate_nat]
  rw [this]
  have := Nat.mul_le_mul_right l.length hi
  omega
/-- Is somebody over one who is over them? -/
def ringM (l : List Txt) (M : Nat → Nat → Bool) : Bool := (ahead l.length l.length 0).any fun x => badM M x.1 x.2
def leastE (l : List Txt) (acts : List (Txt × Txt)) : Int := if checkC l acts ≠ 0 then checkC l acts else if ringM l (closM l acts) then 4 else 0
def leastR (l : List Txt) (acts : List (Txt × Txt)) : List (Txt × Txt) := if leastE l acts = 0 then leastTo l (closM l acts) l.length 0 else []
end Go.Proofs.YtcgihpfanfbonaaGreatDoor
namespace Go.Proofs.YtcgihpfanfbonaaGreatDoor
set_option linter.unusedVariables false
set_option linter.unusedSimpArgs false

theorem idxOf_lt {l : List Txt} {x : Txt} {j : Nat} (h : idxOf l x = j) : j < l.length := by
  unfold idxOf at h
  cases e : l.idxOf? x with
  | none => rw [e] at h; simp only at h; omega
  | some i =>
    rw [e] at h
    simp only at h
    rw [List.idxOf?, List.findIdx?_eq_some_iff_getElem] at e
    obtain ⟨hi, _⟩ := e
    omega
theorem edge_iff {l : List Txt} {acts : List (Txt × Txt)} {i j : Nat} : edgeM l acts i j = true ↔ i = j ∨ ∃ a ∈ acts, idxOf l a.1 = i ∧ idxOf l a.2 = j := by
  simp [edgeM, Bool.or_eq_true, List.any_eq_true]
theorem clos_reach {l : List Txt} {acts : List (Txt × Txt)} {i j : Nat} : closM l acts i j = true ↔ Reach (fun a b => edgeM l acts a b = true) i j := by
  unfold closM
  rw [war_via _ (fun i => by simp [edgeM])]
  constructor
  · exact fun h => h.reach
  · refine fun h => h.via fun a b e hne => ?_
    rcases edge_iff.1 e with h | ⟨x, _, _, h⟩
    · exact absurd h hne
    · exact idxOf_lt h

section
variable {l : List Txt} {acts : List (Txt × Txt)}
def Over (l : List Txt) (acts : List (Txt × Txt)) (i j : Nat) : Prop := closM l acts i j = true
theorem least_order (h : leastE l acts = 0) : Order (Over l acts) l.length := by
  have hr : ringM l (closM l acts) = false := by
    unfold leastE at h
    split at h
    · omega
    · cases e : ringM l (closM l acts) with
      | false => rfl
      | true => rw [e] at h; simp at h
  refine ⟨fun i _ => clos_reach.2 (.refl i), fun i j k _ _ _ h1 h2 => clos_reach.2 ((clos_reach.1 h1).trans (clos_reach.1 h2)), fun i j hi hj h1 h2 => ?_⟩
  unfold ringM at hr
  rw [List.any_eq_false] at hr
  have := hr (i, j) (mem_ahead.2 (.inl ⟨hi, hj⟩))
  unfold Over at h1 h2
  simpa [badM, overM, h1, h2] using this
theorem least_check (h : leastE l acts = 0) : checkC l acts = 0 := by
  apply Decidable.byContradiction
  intro hne
  unfold leastE at h
  rw [if_pos hne] at h
  exact hne h
theorem cover_iff {i k : Nat} (hi : i < l.length) (hk : k < l.length) : coverM (closM l acts) l.length i k = true ↔ Right (Over l acts) l.length i k := by
  simp only [coverM, overM, Bool.and_eq_true, bne_iff_ne, ne_eq, Bool.not_eq_true', List.any_eq_false, List.mem_range, betwM, Right, Over]
  constructor
  · rintro ⟨⟨h1, h2⟩, h3⟩
    exact ⟨hi, hk, h1, h2, fun ⟨j, hj, a, b, c, d⟩ => h3 j hj ⟨⟨⟨a, b⟩, c⟩, d⟩⟩
  · rintro ⟨_, _, h1, h2, h3⟩
    exact ⟨⟨h1, h2⟩, fun j hj ⟨⟨⟨a, b⟩, c⟩, d⟩ => h3 ⟨j, hj, a, b, c, d⟩⟩
theorem mem_least (h : leastE l acts = 0) {x : Txt × Txt} : x ∈ leastR l acts ↔ ∃ i k, i < l.length ∧ k < l.length ∧ Right (Over l acts) l.length i k ∧ x = (nameAt l i, nameAt l k) := by
  unfold leastR leastTo
  rw [if_pos h]
  simp only [List.mem_map, List.mem_filter, Prod.exists]
  constructor
  · rintro ⟨a, c, ⟨hm, hc⟩, rfl⟩
    have := mem_ahead.1 hm
    have ha : a < l.length ∧ c < l.length := by omega
    exact ⟨a, c, ha.1, ha.2, (cover_iff ha.1 ha.2).1 hc, rfl⟩
  · rintro ⟨a, c, h1, h2, h3, rfl⟩
    exact ⟨a, c, ⟨mem_ahead.2 (.inl ⟨h1, h2⟩), (cover_iff h1 h2).2 h3⟩, rfl⟩
theorem idx_name (h : errNames l = 0) {i : Nat} (hi : i < l.length) : idxOf l (nameAt l i) = i := by
  unfold nameAt; rw [getD_at hi]; exact idxOf_at h hi
theorem name_in {i : Nat} (hi : i < l.length) : has l (nameAt l i) = true := by
  unfold nameAt; rw [getD_at hi, has_iff]; exact List.getElem_mem hi
/-- Right chiefs with these pairs. -/
theorem check_of (h : checkC l acts = 0) {m : List (Txt × Txt)} (hm : m.length ≤ 10) (ha : ∀ x ∈ m, has l x.1 = true ∧ has l x.2 = true) : checkC l m = 0 := by
  obtain ⟨z1, z2, z3, z4⟩ := checkC_zero h
  refine checkC_ok z1 hm z3 fun j hj => ?_
  obtain ⟨h1, h2⟩ := ha _ (List.getElem_mem hj)
  unfold actOk; rw [h1, h2]; rfl
theorem least_names (h : leastE l acts = 0) : ∀ x ∈ leastR l acts, has l x.1 = true ∧ has l x.2 = true := by
  intro x hx
  obtain ⟨i, k, hi, hk, _, rfl⟩ := (mem_least h).1 hx
  exact ⟨name_in hi, name_in hk⟩
theorem least_edge (h : leastE l acts = 0) {a c : Nat} : edgeM l (leastR l acts) a c = true ↔ a = c ∨ Right (Over l acts) l.length a c := by
  obtain ⟨_, _, z3, _⟩ := checkC_zero (least_check h)
  rw [edge_iff]
  constructor
  · rintro (h1 | ⟨x, hx, e1, e2⟩)
    · exact .inl h1
    · obtain ⟨i, k, hi, hk, hr, rfl⟩ := (mem_least h).1 hx
      rw [idx_name z3 hi] at e1
      rw [idx_name z3 hk] at e2
      have e1' : i = a := by omega
      have e2' : k = c := by omega
      subst e1' e2'
      exact .inr hr
  · rintro (h1 | h1)
    · exact .inl h1
    · exact .inr ⟨_, (mem_least h).2 ⟨a, c, h1.1, h1.2.1, h1, rfl⟩, idx_name z3 h1.1, idx_name z3 h1.2.1⟩
theorem least_clos (h : leastE l acts = 0) {i j : Nat} (hi : i < l.length) (hj : j < l.length) : closM l (leastR l acts) i j = closM l acts i j := by
  rw [Bool.eq_iff_iff, clos_reach]
  show _ ↔ Over l acts i j
  rw [← right_iff (least_order h) hi hj]
  constructor
  · exact fun hr => hr.lift fun a c e => by
      rcases (least_edge h).1 e with e | e
      · subst e; exact .refl _
      · exact .step e (.refl _)
  · exact fun hr => hr.mono fun a c e => (least_edge h).2 (.inr e)
theorem least_for (h : leastE l acts = 0) (hm : (leastR l acts).length ≤ 10) {b : Txt} (hb : has l b = true) : forE l acts b = 0 ∧ forE l (leastR l acts) b = 0 ∧ forR l acts b = forR l (leastR l acts) b := by
  have hc := least_check h
  have hc2 := check_of hc hm (least_names h)
  have e1 : forE l acts b = 0 := by unfold forE; rw [if_neg (by omega), hb]; rfl
  have e2 : forE l (leastR l acts) b = 0 := by unfold forE; rw [if_neg (by omega), hb]; rfl
  refine ⟨e1, e2, ?_⟩
  unfold forR
  rw [if_pos e1, if_pos e2]
  unfold forL
  refine List.filter_congr fun s hs => ?_
  obtain ⟨i, i1, i2, _⟩ := idxOf_has (has_iff.2 hs)
  obtain ⟨j, j1, j2, _⟩ := idxOf_has hb
  unfold actM
  rw [i1, j1]
  exact (least_clos h (by simpa using i2) (by simpa using j2)).symm
theorem ahead_apart (n i k : Nat) : (ahead n i k).Pairwise fun x y => x.1 < y.1 ∨ (x.1 = y.1 ∧ x.2 < y.2) := by
  unfold ahead
  rw [List.pairwise_append]
  refine ⟨?_, ?_, ?_⟩
  · rw [List.pairwise_flatMap]
    refine ⟨fun a _ => ?_, ?_⟩
    · rw [List.pairwise_map]
      exact List.pairwise_lt_range.imp fun h => .inr ⟨rfl, h⟩
    · refine List.pairwise_lt_range.imp fun {a c} h => ?_
      intro x hx y hy
      simp only [List.mem_map] at hx hy
      obtain ⟨_, _, rfl⟩ := hx
      obtain ⟨_, _, rfl⟩ := hy
      exact .inl h
  · rw [List.pairwise_map]
    exact List.pairwise_lt_range.imp fun h => .inr ⟨rfl, h⟩
  · intro x hx y hy
    simp only [List.mem_flatMap, List.mem_map, List.mem_range] at hx hy
    obtain ⟨a, ha, _, _, rfl⟩ := hx
    obtain ⟨_, _, rfl⟩ := hy
    exact .inl ha
theorem least_nodup (h : leastE l acts = 0) : (leastR l acts).Pairwise (· ≠ ·) := by
  obtain ⟨_, _, z3, _⟩ := checkC_zero (least_check h)
  unfold leastR leastTo
  rw [if_pos h, List.pairwise_map]
  refine List.Pairwise.imp_of_mem ?_ ((ahead_apart l.length l.length 0).filter _)
  intro x y hx hy hxy e
  have h1 := mem_ahead.1 (List.mem_filter.1 hx).1
  have h2 := mem_ahead.1 (List.mem_filter.1 hy).1
  simp only [Prod.mk.injEq] at e
  have e1 := congrArg (idxOf l) e.1
  have e2 := congrArg (idxOf l) e.2
  rw [idx_name z3 (by omega), idx_name z3 (by omega)] at e1 e2
  omega
theorem least_less (h : leastE l acts = 0) (hm : (leastR l acts).length ≤ 10) {k : Nat} (hk : k < (leastR l acts).length) :
    actsE l ((leastR l acts).eraseIdx k) (leastR l acts)[k].1 (leastR l acts)[k].2 = 0 ∧ actsB l ((leastR l acts).eraseIdx k) (leastR l acts)[k].1 (leastR l acts)[k].2 = false := by
  have hc := least_check h
  obtain ⟨_, _, z3, _⟩ := checkC_zero hc
  have hc2 : checkC l ((leastR l acts).eraseIdx k) = 0 := check_of hc (Nat.le_trans (List.length_eraseIdx_le _ _) hm) fun x hx => least_names h x (List.mem_of_mem_eraseIdx hx)
  obtain ⟨n1, n2⟩ := least_names h _ (List.getElem_mem hk)
  obtain ⟨i, j, hi, hj, hr, hx⟩ := (mem_least h).1 (List.getElem_mem hk)
  obtain ⟨e1, e2⟩ := acts_ok hc2 n1 n2
  refine ⟨e1, ?_⟩
  rw [e2]
  unfold actM
  rw [hx]
  simp only [idx_name z3 hi, idx_name z3 hj, Int.toNat_natCast]
  cases hcl : closM l ((leastR l acts).eraseIdx k) i j with
  | false => rfl
  | true =>
    exfalso
    refine right_less (least_order h) hr ((clos_reach.1 hcl).lift fun a c e => ?_)
    rcases edge_iff.1 e with e | ⟨x, hx', f1, f2⟩
    · subst e; exact .refl _
    · obtain ⟨q, hq, hne, rfl⟩ := List.mem_eraseIdx_iff_getElem.1 hx'
      obtain ⟨i', j', hi', hj', hr', hx2⟩ := (mem_least h).1 (List.getElem_mem hq)
      rw [hx2] at f1 f2
      simp only [idx_name z3 hi', idx_name z3 hj'] at f1 f2
      have f1' : i' = a := by omega
      have f2' : j' = c := by omega
      subst f1' f2'
      refine .step ⟨hr', fun ⟨g1, g2⟩ => ?_⟩ (.refl _)
      subst g1 g2
      have hp := List.pairwise_iff_getElem.1 (least_nodup h)
      rcases Nat.lt_or_gt_of_ne hne with hlt | hlt
      · exact hp q k hq hk hlt (hx2.trans hx.symm)
      · exact hp k q hk hq hlt (hx.trans hx2.symm)
end
end Go.Proofs.YtcgihpfanfbonaaGreatDoor
namespace Go.Proofs.YtcgihpfanfbonaaGreatDoor
open Go.RowKit
set_option linter.unusedVariables false
set_option linter.unusedSimpArgs false

/-- Where the first stands of which it holds; none: -1. -/
def idxBy {α : Type} (l : List α) (q : α → Bool) : Int := match l.findIdx? q with | some i => (i : Int) | none => -1
theorem idxBy_hit {α : Type} {l : List α} {q : α → Bool} {k : Nat} (hk : k < l.length) (h : q l[k] = true) (hne : ∀ j (hj : j < l.length), j < k → q l[j] = false) : idxBy l q = k := by
  unfold idxBy
  have : l.findIdx? q = some k := by
    rw [List.findIdx?_eq_some_iff_getElem]
    refine ⟨hk, h, fun j hj => ?_⟩
    rw [hne j (by omega) hj]
    simp
  rw [this]
theorem idxBy_miss {α : Type} {l : List α} {q : α → Bool} (hne : ∀ j (hj : j < l.length), q l[j] = false) : idxBy l q = -1 := by
  unfold idxBy
  have : l.findIdx? q = none := by
    rw [List.findIdx?_eq_none_iff]
    intro y hy
    obtain ⟨j, hj, rfl⟩ := List.getElem_of_mem hy
    exact hne j hj
  rw [this]
/-- Is there one of which it holds? -/
def anyBy {α : Type} (l : List α) (q : α → Bool) : Bool := l.any q
theorem idxBy_any {α : Type} (l : List α) (q : α → Bool) : decide (0 ≤ idxBy l q) = anyBy l q := by
  unfold idxBy anyBy
  rw [Bool.eq_iff_iff]
  cases h : l.findIdx? q with
  | none =>
    rw [List.findIdx?_eq_none_iff] at h
    simp only [Int.reduceNeg, Int.neg_nonneg, decide_eq_true_eq, List.any_eq_true]
    constructor
    · intro h; omega
    · rintro ⟨x, hx, hq⟩
      rw [h x hx] at hq
      cases hq
  | some i =>
    rw [List.findIdx?_eq_some_iff_getElem] at h
    obtain ⟨hi, he, _⟩ := h
    simp only [Int.natCast_nonneg, decide_true, List.any_eq_true, true_iff]
    exact ⟨_, List.getElem_mem hi, he⟩

/-- A function value that tells `q` of each text of a list, whatever is made in between. -/
def TellsTxt (W : World) (l : List Txt) (fn : FuncId) (cap : Array Value) (q : Txt → Bool) : Prop :=
  ∀ (x : Txt), x ∈ l → ∀ (w : World), Below W.heap.size W w → Calls Tryz.prog fn (#[.string x] ++ cap) w fun e w' => e = .returned (.bool (q x)) ∧ Below w.heap.size w w'

theorem indexFunc_calls (l : List Txt) (v : Value) (fn : FuncId) (cap : Array Value) (q : Txt → Bool) (w : World) (h : Strs w l v) (eg : ∀ args w, (callFunc fn args).run Tryz.prog w = .ok (.enter fn args) w) (hq : TellsTxt w l fn cap q) :
    Calls Tryz.prog 51 #[v, .func (.func fn) #[] cap] w fun e w' => e = .returned (.int .i64 (idxBy l q)) ∧ Below w.heap.size w w' := by
  obtain ⟨b, o, c, p, rfl, hlc, hc, hp, hcells⟩ := h.cells
  go_enter Tryz.func51, Tryz.ntmps51
  go_wp2
  go_loopw [5, 8] (fun _ i wr => ∃ k : Nat, k ≤ l.length ∧ i = .int .i64 k ∧ Below w.heap.size w wr ∧ ∀ j (hj : j < l.length), j < k → q l[j] = false) (fun _ i _ => l.length - (intOf i).toNat)
  case atStart => exact ⟨0, Nat.zero_le _, rfl, Below.refl _ _, fun j _ hj => absurd hj (Nat.not_lt_zero _)⟩
  case round =>
    obtain ⟨k, hk, rfl, hb, hne⟩ := hrel
    by_cases hlt : k < l.length
    · have hcell0 := hcells k hlt
      have hcell : wr.cell? ⟨b, o + k, none⟩ = some (.string l[k]) := (hb.cell (cell_lt hcell0)).trans hcell0
      obtain rfl := hp (by omega)
      have HN := Lib.hid hne
      clear hp hcells hcell0 hne
      have HQ := hq l[k] (List.getElem_mem hlt) wr hb
      clear hq
      cases hx : q l[k] with
      | true =>
        rw [hx] at HQ
        have HX := Lib.hid hx
        clear hx
        go_wp2_with (fail)
        refine HQ.mono ?_
        rintro e w1 ⟨rfl, hb1⟩
        go_wp2
        go_ret
        exact ⟨ret_int (idxBy_hit hlt HX.out HN.out).symm, hb.trans (hb1.mono hb.size)⟩
      | false =>
        rw [hx] at HQ
        have HX := Lib.hid hx
        clear hx
        go_wp2_with (fail)
        refine HQ.mono ?_
        rintro e w1 ⟨rfl, hb1⟩
        go_wp2
        go_roundw
        case rel =>
          refine ⟨k + 1, by omega, by go_num, hb.trans (hb1.mono hb.size), fun j hj hj' => ?_⟩
          by_cases e : j = k
          · subst e; exact HX.out
          · exact HN.out j hj (by omega)
        case measure => simp [intOf]; omega
    · go_wp2
      go_ret
      exact ⟨ret_int (idxBy_miss (fun j hj => hne j hj (by omega))).symm, hb⟩

theorem containsFunc_calls (l : List Txt) (v : Value) (fn : FuncId) (cap : Array Value) (q : Txt → Bool) (w : World) (h : Strs w l v)
    (eg : ∀ args w, (callFunc fn args).run Tryz.prog w = .ok (.enter fn args) w) (hq : TellsTxt w l fn cap q) :
    Calls Tryz.prog 14 #[v, .func (.func fn) #[] cap] w fun e w' => e = .returned (.bool (anyBy l q)) ∧ Below w.heap.size w w' := by
  rw [← idxBy_any]
  go_enter Tryz.func14, Tryz.ntmps14
  go_wp2_with (go_at_call 51; refine (indexFunc_calls l _ fn cap q _ h eg hq).mono ?_; rintro e w' ⟨rfl, hb⟩)
  go_ret
  exact ⟨rfl, hb⟩
end Go.Proofs.YtcgihpfanfbonaaGreatDoor
namespace Go.Proofs.YtcgihpfanfbonaaGreatDoor
set_option linter.unusedVariables false
set_option linter.unusedSimpArgs false

theorem forE_zero {l : List Txt} {acts : List (Txt × Txt)} {b : Txt} (h : forE l acts b = 0) : checkC l acts = 0 ∧ has l b = true := by
  unfold forE at h
  split at h
  · omega
  · rename_i h1
    refine ⟨by omega, ?_⟩
    cases e : has l b with
    | true => rfl
    | false => rw [e] at h; simp at h
theorem edge_more {l : List Txt} {acts more : List (Txt × Txt)} {i j : Nat} (h : edgeM l acts i j = true) : edgeM l (acts ++ more) i j = true := by
  rcases edge_iff.1 h with h | ⟨x, hx, h⟩
  · exact edge_iff.2 (.inl h)
  · exact edge_iff.2 (.inr ⟨x, List.mem_append_left _ hx, h⟩)
theorem clos_more {l : List Txt} {acts more : List (Txt × Txt)} {i j : Nat} (h : closM l acts i j = true) : closM l (acts ++ more) i j = true :=
  clos_reach.2 ((clos_reach.1 h).mono fun _ _ e => edge_more e)
theorem act_more {l : List Txt} {acts more : List (Txt × Txt)} {a b : Txt} (h : actM l acts a b = true) : actM l (acts ++ more) a b = true := clos_more h
theorem more_for {l : List Txt} {acts more : List (Txt × Txt)} {b : Txt} (h1 : forE l acts b = 0) (h2 : forE l (acts ++ more) b = 0) :
    anyBy (forR l acts b) (fun s => !has (forR l (acts ++ more) b) s) = false ∧ has (forR l acts b) b = true := by
  unfold forR
  rw [if_pos h1, if_pos h2]
  unfold forL
  constructor
  · unfold anyBy
    rw [List.any_eq_false]
    intro s hs
    rw [List.mem_filter] at hs
    have : has (l.filter fun s => actM l (acts ++ more) s b) s = true := has_iff.2 (List.mem_filter.2 ⟨hs.1, act_more hs.2⟩)
    simp [this]
  · rw [has_iff, List.mem_filter]
    refine ⟨has_iff.1 (forE_zero h1).2, ?_⟩
    exact clos_reach.2 (.refl _)

end Go.Proofs.YtcgihpfanfbonaaGreatDoor
