/-
  sort.Slice over texts under a less that lays blocks: a sorted permutation, and nothing else turns. NormalOf's sort.Slice: the keys come to stand in the order of their policies. The reference's ActsFor: going from one to the next. The reference's CheckLabel, Lets, covers, MayGo, ReadersOf.
-/
import Derived.Test.YtcgihpfanfbonaaGreatDoorLN19
import Derived.Shelf.GgSortFunc.Small
import Derived.Shelf.GgSortFunc.Tiny
import Derived.Test.YtcgihpfanfbonaaGreatDoorLN09
import Derived.Test.YtcgihpfanfbonaaGreatDoorLN10
import Derived.Test.YtcgihpfanfbonaaGreatDoorLN05
import Derived.Test.YtcgihpfanfbonaaGreatDoorLN02
import Derived.BigQuiet
import Derived.Deep.QuietTactic
import Derived.Test.YtcgihpfanfbonaaGreatDoorLN04
namespace Go.Proofs.YtcgihpfanfbonaaGreatDoor
open Go.RowKit Go.Sort Go.Lib
set_option linter.unusedVariables false
set_option linter.unusedSimpArgs false
noncomputable def siT : TypeInfo := (Tryz.prog.info? 22).get (by kernel_rfl)
noncomputable def siE : TypeInfo := (Tryz.prog.info? 9).get (by kernel_rfl)
theorem siK (n : Nat) (h2 : 2 ≤ n) : Lib.swapperK n siE 24 = 4 := by
  have a : siE.hasPointers = true := by kernel_rfl
  have b : siE.bytes = 16 := by kernel_rfl
  have c : (n == 0) = false := by simp; omega
  have d : (n == 1) = false := by simp; omega
  simp [Lib.swapperK, a, b, c, d]
theorem sort_tiny (p : Option Addr) (n c : Nat) (h1 : n ≤ 1) (lf : Fn) (la lb : Array Value) (w : World) :
    Calls Tryz.prog 46 #[.iface 22 (.slice p n c), .func lf la lb] w fun e w' => e = .returned (.tuple #[]) ∧ Below w.heap.size w w' := by
  have hK : Lib.swapperK n siE 24 = n + 1 := by
    rcases Nat.eq_zero_or_pos n with h | h
    · subst h; simp [Lib.swapperK]
    · obtain rfl : n = 1 := by omega
      simp [Lib.swapperK]
  have hS := Any.sort_Slice_tiny (P := Tryz.prog) (ρ := Tryz.sl6_ren) Tryz.sl6 22 9 siT siE (by kernel_rfl) (by kernel_rfl) (by kernel_rfl) (by kernel_rfl) 24 (fun _ => by kernel_rfl) p n c h1 (105 + n) (by
    rw [hK]
    rcases Nat.eq_zero_or_pos n with h | h
    · subst h; kernel_rfl
    · obtain rfl : n = 1 := by omega
      kernel_rfl) lf la lb w
  change Calls Tryz.prog 46 _ _ _ at hS
  refine hS.mono ?_
  rintro e w' ⟨rfl, os, rfl⟩
  have hg : w.grownBy (grow w os) none := ⟨rfl, rfl, rfl, by rw [size_grow]; exact Nat.le_add_right _ _, fun k hk _ => heap_grow_old _ _ hk⟩
  exact ⟨rfl, (Below.refl _ _).grown hg (Nat.le_refl _) (fun q hq => by cases hq)⟩

theorem grown_any {w w' : World} {b : Option Nat} (h : w.grownBy w' none) : w.grownBy w' b := ⟨h.os, h.tape, h.output, h.size, fun k hk _ => h.block k hk (by simp)⟩
theorem grown_allocS (w : World) (o : Obj) (b : Option Nat) : w.grownBy (w.alloc o) b := by
  rw [alloc_eq_grow]
  exact ⟨rfl, rfl, rfl, by rw [size_grow]; exact Nat.le_add_right _ _, fun k hk _ => heap_grow_old _ _ hk⟩
/-- sort.Slice of two texts or more. -/
theorem sortSlice_calls {α : Type} [Inhabited α] {enc : α → Value} (h1 : ∀ x, (enc x).oneCell' = true) {lt : α → α → Bool} (hO : SWO lt) (g : Nat) (lb : Array Value) (eg : ∀ args w, (callFunc g args).run Tryz.prog w = .ok (.enter g args) w)
    (blk off c size : Nat) (d : Array α) (hd : d.size = size) (h2 : 2 ≤ size) (hsz : size < 4611686018427387904) (w : World) (hH : Holds enc w blk off d) (hblk : blk < w.heap.size)
    (hless : ∀ (W : World) (dk : Array α), RowAt enc w blk off size dk W → ∀ i j : Nat, i < size → j < size → Calls Tryz.prog g (#[.int .i64 i, .int .i64 j] ++ lb) W fun e w' => e = .returned (.bool (lt dk[i]! dk[j]!)) ∧ Below W.heap.size W w') :
    Calls Tryz.prog 46 #[.iface 22 (.slice (some ⟨blk, off, none⟩) size c), .func (.func g) #[] lb] w fun e w' =>
      e = .returned (.tuple #[]) ∧ ∃ d', PermIn 0 size d d' ∧ SortedIn lt 0 size d' ∧ RowAt enc w blk off size d' w' := by
  have hS := Any.sort_Slice_of_pdq (P := Tryz.prog) (ρ := Tryz.sl6_ren) Tryz.sl6 22 9 siT siE (by kernel_rfl) (by kernel_rfl) (by kernel_rfl) (by kernel_rfl) 24 (fun _ => by kernel_rfl)
    (some ⟨blk, off, none⟩) size c hsz 108 (by rw [siK _ h2]; kernel_rfl) (.func g) #[] lb w
    (fun w' => ∃ d', PermIn 0 size d d' ∧ SortedIn lt 0 size d' ∧ RowAt enc w blk off size d' w') ?_
  · change Calls Tryz.prog 46 _ _ _ at hS
    exact hS
  · have hB : sliceBound Tryz.prog 9 siE 24 (some ⟨blk, off, none⟩) size c = #[.slice (some ⟨blk, off, none⟩) size c, typeHandle Tryz.prog 9] := by
      unfold sliceBound; rw [if_neg (swapperK_gt _ _ _ h2)]
    rw [hB]
    have hg1 : w.grownBy (sliceWorld Tryz.prog Tryz.sl6_ren 22 (some ⟨blk, off, none⟩) size c w) none := grown_grown (grown_allocS _ _ _) (grown_allocS _ _ _)
    generalize sliceWorld Tryz.prog Tryz.sl6_ren 22 (some ⟨blk, off, none⟩) size c w = w1 at hg1
    have hb1 : Below w.heap.size w w1 := (Below.refl _ _).grown hg1 (Nat.le_refl _) (fun q hq => by cases hq)
    have h0 : RowAt enc w blk off size d w := ⟨hd, hH, World.grownBy.refl _ _⟩
    have S : Sorter enc lt g lb 108 #[.slice (some ⟨blk, off, none⟩) size c, typeHandle Tryz.prog 9] w blk off size :=
      ⟨eg, hless, swapSwaps_of_literal true 108 (fun args W => run_callFunc_extern Tryz.func108 (by kernel_rfl) (by kernel_rfl) (by kernel_rfl) (e := Extern.ReflectliteSwapper.swap true) (by kernel_rfl) args W) 9 siE (by kernel_rfl) (by kernel_rfl) (fun _ => by kernel_rfl) enc h1 blk off size c, hblk, hsz⟩
    have hlim : Lib.bitLen size < 4611686018427387904 := Nat.lt_of_le_of_lt (Lib.bitLen_le size 62 (by omega) (by omega)) (by omega)
    have hp := pdqF_calls hO S (size + 1) 0 size (Lib.bitLen size) d w1 (by omega) (h0.below hblk hb1) (Nat.zero_le _) (Nat.le_refl _) hlim (Or.inl rfl)
    have hs := pdq_sorts lt hO d 0 size (Lib.bitLen size) true true (Nat.zero_le _) (by omega) (Or.inl rfl)
    refine hp.mono ?_
    rintro e w' ⟨rfl, hA, _⟩
    exact ⟨rfl, _, hs.1, hs.2, hA⟩
end Go.Proofs.YtcgihpfanfbonaaGreatDoor
namespace Go.Proofs.YtcgihpfanfbonaaGreatDoor
open Go.RowKit Go.Maps Go.Sort
set_option linter.unusedVariables false
set_option linter.unusedSimpArgs false

/-- The keys, sorted; what is kept behind them. -/
structure NEd (x : Lab) (B : Nat) (w' : World) (kv : Value) (D : DataW Value) : Prop where
  map : w'.ownsMap Tryz.prog 9 heldElem B x.length D
  c5 : w'.cell? ⟨B + 1, 0, none⟩ = some (.map (some B))
  c6 : w'.cell? ⟨B + 1 + 1, 0, none⟩ = some kv
  st : Stored (NS B kv) w' D (polTo x x.length)
  keys : Strs w' ((allOf x).map keyT) kv
theorem polTo_all (x : Lab) : polTo x x.length = firstsTo (x.map plainP) := by unfold polTo; rw [List.take_length]
theorem NEd.below {x : Lab} {B : Nat} {w w' : World} {kv : Value} {D : DataW Value} (h : NEd x B w kv D) (hb : Below w.heap.size w w') : NEd x B w' kv D :=
  ⟨owns_belowV (B := 0) h.map hb, (hb.cell (cell_lt h.c5)).trans h.c5, (hb.cell (cell_lt h.c6)).trans h.c6, h.st.mono (GrownS.of_below hb (fun _ hj _ => hj)), h.keys.stays (keeps_of_below hb)⟩

theorem NEd.look {x : Lab} {B : Nat} {w : World} {kv : Value} {D : DataW Value} (h : NEd x B w kv D) {p : Pol} (hp : p ∈ polTo x x.length) (hk : okTxt (keyT p)) :
    ∃ pp n c, Strs w p.2 (.slice pp n c) ∧ ∀ W, Below w.heap.size w W → (Instr.lookup 79 (.map (some B)) (.string (keyT p)) false).run Tryz.prog W = .ok (.agg #[.string p.1, .slice pp n c]) W := by
  obtain ⟨v, h1, h2⟩ := h.st.at_ p hp
  obtain ⟨pp, c, hv, _⟩ := h2.strs
  subst hv
  refine ⟨pp, _, c, h2.strs, fun W hW => ?_⟩
  obtain ⟨u, ps, hrun, hu⟩ := (owns_belowV (B := 0) h.map hW).lookup (t := 79) (e := 37) law_str Tryz.underlying79 (zero_pol W) (zd := .held zeroPol) (zp := []) rfl (key_str hk)
  rw [h1] at hu
  rw [← heldElem_inv hu]
  exact hrun
/-- Places in a list, compared by what stands there. -/
def ltAt (pol : Nat → Pol) (i j : Nat) : Bool := decide (cmpPol (pol i) (pol j) < 0)
theorem ltAt_swo (pol : Nat → Pol) : SWO (ltAt pol) where
  irrefl x := by unfold ltAt; rw [cmpPol_tot.self]; rfl
  trans x y z h1 h2 := by
    unfold ltAt at *
    simp at *
    exact cmpPol_tot.trans _ _ _ h1 h2
  ntrans x y z h1 h2 := by
    unfold ltAt at *
    simp at *
    have a1 := cmpPol_tot.anti (pol x) (pol y)
    have a2 := cmpPol_tot.anti (pol y) (pol z)
    have a3 := cmpPol_tot.anti (pol x) (pol z)
    have := cmpPol_tot.le_trans (a := pol z) (b := pol y) (c := pol x) (by omega) (by omega)
    omega
theorem sortKeys_calls (x : Lab) (B : Nat) (wo : World) (kv : Value) (D : DataW Value) (h : NSt x B wo kv D x.length) (hks : ∀ p ∈ polTo x x.length, okTxt (keyT p)) (hx : x.length ≤ 1000000) :
    Calls Tryz.prog 46 #[.iface 22 kv, .func (.func 47) #[] #[.pointer (some ⟨B + 1, 0, none⟩), .pointer (some ⟨B + 1 + 1, 0, none⟩)]] wo fun e w' => e = .returned (.tuple #[]) ∧ NEd x B w' kv D ∧ Below (B + 3) wo w' := by
  obtain ⟨P, hP⟩ : ∃ P, polTo x x.length = P := ⟨_, rfl⟩
  have hPf : P = firstsTo (x.map plainP) := by rw [← hP, polTo_all]
  have hPl : P.length ≤ x.length := by rw [← hP]; exact polTo_le _ _
  have hsz := h.size
  have hrow := h.row
  rw [hP] at hrow
  have hrow' : wo.ownsRow (B + 3) 9 1 kv (P.map keyT).length ((P.map keyT).map Value.string) := by rw [List.length_map, List.map_map]; exact hrow
  by_cases hn : P.length ≤ 1
  · obtain ⟨pp, cc, rfl⟩ := ownsRow_slice hrow
    refine (sort_tiny pp P.length cc hn _ _ _ wo).mono ?_
    rintro e w' ⟨rfl, hb⟩
    have h' := h.below hb
    have hup : Upward cmpPol P := by
      match P, hn with
      | [], _ => exact List.Pairwise.nil
      | [a], _ => exact List.pairwise_singleton _ _
    have hall : P = allOf x := sorted_firsts x (by rw [hPf]) hup
    refine ⟨rfl, ⟨h'.map, h'.c5, h'.c6, h'.st, ?_⟩, hb.mono hsz⟩
    rw [← hall]
    exact (Strs.of_owns hrow').stays (keeps_of_below hb)
  · have h2 : 2 ≤ P.length := by omega
    rcases hrow.2 with ⟨_, hn0⟩ | ⟨g, cap, cur, hkv, hbase, hblk, q1, q2, q3, q4⟩
    · omega
    subst hkv
    obtain ⟨P0, hP0⟩ : ∃ p, p ∈ P := ⟨P[0]'(by omega), List.getElem_mem _⟩
    obtain ⟨pol, hpol⟩ : ∃ pol : Nat → Pol, ∀ i, pol i = P.getD i P0 := ⟨_, fun _ => rfl⟩
    have hpi : ∀ i (hi : i < P.length), pol i = P[i] := fun i hi => by rw [hpol]; simp [List.getD, hi]
    have hmem : ∀ i, pol i ∈ P := fun i => by
      rw [hpol]
      by_cases hi : i < P.length
      · have : P.getD i P0 = P[i] := by simp [List.getD, hi]
        rw [this]; exact List.getElem_mem _
      · have : P.getD i P0 = P0 := by simp [List.getD, hi]
        rw [this]; exact hP0
    have hg : g < wo.heap.size := (Array.getElem?_eq_some_iff.1 hblk).1
    have hd0 : (List.range P.length).toArray.size = P.length := by simp
    have hgetd : ∀ j, j < P.length → (List.range P.length).toArray[j]! = j := fun j hj => by
      rw [getElem!_pos _ j (by simpa using hj)]; simp
    have hcell : ∀ j (hj : j < P.length), wo.cell? ⟨g, 0 + j, none⟩ = some (.string (keyT P[j])) := fun j hj => by
      have := (Strs.of_owns hrow').cells
      obtain ⟨b', o', c', p', e', _, _, hp', hc'⟩ := this
      simp only [Value.slice.injEq] at e'
      obtain ⟨e1, _, _⟩ := e'
      have hp'' := hp' (by rw [List.length_map]; omega)
      rw [← e1] at hp''
      cases hp''
      have := hc' j (by rw [List.length_map]; exact hj)
      rw [this, List.getElem_map]
    have hH : Holds (fun i => Value.string (keyT (pol i))) wo g 0 (List.range P.length).toArray := fun j hj => by
      have hj' : j < P.length := by simpa using hj
      refine ⟨?_, by simp [World.frozen?, hblk]⟩
      rw [hgetd j hj']
      show _ = some (Value.string (keyT (pol j)))
      rw [hpi j hj']
      exact hcell j hj'
    have hless : ∀ (W : World) (dk : Array Nat), RowAt (fun i => Value.string (keyT (pol i))) wo g 0 P.length dk W → ∀ i j : Nat, i < P.length → j < P.length →
        Calls Tryz.prog 47 (#[.int .i64 i, .int .i64 j] ++ #[.pointer (some ⟨B + 1, 0, none⟩), .pointer (some ⟨B + 1 + 1, 0, none⟩)]) W fun e w' => e = .returned (.bool (ltAt pol dk[i]! dk[j]!)) ∧ Below W.heap.size W w' := fun W dk hA i j hi hj =>
      lessN_calls P (NS B (.slice (some ⟨g, 0, none⟩) P.length cap)) (pol dk[i]!) (pol dk[j]!) i j (B + 1) (B + 1 + 1) B g 0 cap P.length x.length D W
        (grown_cell hA.grow h.c5 (fun e => by simp at e; omega)) (grown_cell hA.grow h.c6 (fun e => by simp at e; omega)) hi hj (by omega) (hA.cells i hi) (hA.cells j hj)
        (h.map.kept hA.grow (fun e => by simp at e; omega)) (by rw [← hP]; exact h.st.mono (GrownS.of_grown hA.grow (fun k hk => .inr (.inr (by rw [← hk]; rfl))))) (hmem _) (hmem _) (hks _ (by rw [hP]; exact hmem _)) (hks _ (by rw [hP]; exact hmem _))
    have hS := sortSlice_calls (enc := fun i => Value.string (keyT (pol i))) (fun _ => rfl) (ltAt_swo pol) 47 #[.pointer (some ⟨B + 1, 0, none⟩), .pointer (some ⟨B + 1 + 1, 0, none⟩)]
      (enters_at Tryz.func47 (by kernel_rfl) rfl) g 0 cap P.length (List.range P.length).toArray hd0 h2 (by omega) wo hH hg hless
    refine hS.mono ?_
    rintro e w' ⟨rfl, d', hp, hs, hA⟩
    have hds := hA.size
    have hperm : d'.toList.Perm (List.range P.length) := by
      have := hp.2.2
      rw [show d'.extract 0 P.length = d' by rw [← hds]; simp, show (List.range P.length).toArray.extract 0 P.length = (List.range P.length).toArray by simp] at this
      simpa using this
    have hrange : (List.range P.length).map pol = P := by
      apply List.ext_getElem
      · simp
      · intro i h1 h2
        rw [List.getElem_map, List.getElem_range]
        exact hpi i h2
    have hX : (d'.toList.map pol).Perm (firstsTo (x.map plainP)) := by
      rw [← hPf]
      have := hperm.map pol
      rwa [hrange] at this
    have hup : Upward cmpPol (d'.toList.map pol) := by
      refine List.pairwise_iff_getElem.2 fun i j hi hj hij => ?_
      rw [List.getElem_map, List.getElem_map]
      have hi' : i < d'.size := by simpa using hi
      have hj' : j < d'.size := by simpa using hj
      have := hs i j (Nat.zero_le _) hij (by omega)
      unfold ltAt at this
      rw [getElem!_pos d' i hi', getElem!_pos d' j hj', decide_eq_false_iff_not] at this
      have h3 := cmpPol_tot.anti (pol d'[i]) (pol d'[j])
      simp only [Array.getElem_toList]
      omega
    have hall := sorted_firsts x hX hup
    have hlen : (allOf x).length = P.length := by rw [← hall]; simp [hds]
    have hgr := hA.grow
    refine ⟨rfl, ⟨h.map.kept hgr (fun e => by simp at e; omega), grown_cell hgr h.c5 (fun e => by simp at e; omega), grown_cell hgr h.c6 (fun e => by simp at e; omega), h.st.mono (GrownS.of_grown hgr (fun k hk => .inr (.inr (by rw [← hk]; rfl)))), ?_⟩,
      ((Below.refl _ _).mono hsz).grown hgr hsz (fun q hq => by cases hq; exact hbase)⟩
    refine ⟨some ⟨g, 0, none⟩, cap, by rw [List.length_map, hlen], by rw [List.length_map, hlen]; exact q1, q2, .inr ⟨g, 0, rfl, fun i hi => ?_⟩⟩
    have hi2 : i < P.length := by rw [List.length_map, hlen] at hi; exact hi
    have hc := hA.cells i hi2
    refine ⟨[.string ((allOf x).map keyT)[i]], rfl, rfl, fun j y hy => ?_⟩
    match j, hy with
    | 0, hy =>
      simp at hy
      subst hy
      have e : (allOf x)[i]'(by rw [hlen]; exact hi2) = pol d'[i]! := by
        have : (allOf x)[i]? = (d'.toList.map pol)[i]? := by rw [hall]
        rw [List.getElem?_eq_getElem (by rw [hlen]; exact hi2), List.getElem?_map, Array.getElem?_toList, Array.getElem?_eq_getElem (by omega)] at this
        simp at this
        rw [this, getElem!_pos d' i (by omega)]
      have hc' : w'.cell? ⟨g, 0 + i * 1 + 0, none⟩ = some (.string (keyT (pol d'[i]!))) := by simpa using hc
      rw [← e] at hc'
      simpa using hc'
end Go.Proofs.YtcgihpfanfbonaaGreatDoor
namespace Go.Proofs.YtcgihpfanfbonaaGreatDoor
open Go.RowKit
set_option linter.unusedVariables false
set_option linter.unusedSimpArgs false

theorem addN_at {acts : List (Txt × Txt)} {x : Txt} {s : List Txt} {k : Nat} (hk : k < s.length) (hk' : k < (addN acts x s).length) : (addN acts x s)[k] = s[k] := by
  obtain ⟨t, e⟩ := addN_prefix x acts s
  simp only [e]
  exact List.getElem_append_left hk
theorem addN_len {acts : List (Txt × Txt)} {x : Txt} {s : List Txt} {k : Nat} (hk : k < s.length) : k < (addN acts x s).length := by
  obtain ⟨t, e⟩ := addN_prefix x acts s
  rw [e, List.length_append]; omega
theorem own_belowA {w w' : World} {base : Nat} {v : Value} {n : Nat} {xs : List Value} {e : TypeId} (h : w.ownsRow base e 1 v n xs) (hb : Below w.heap.size w w') : w'.ownsRow base e 1 v n xs := by
  obtain ⟨h1, h2⟩ := h
  refine ⟨h1, ?_⟩
  rcases h2 with h2 | ⟨g, cap, cur, e1, e2, e3, e4⟩
  · exact .inl h2
  · exact .inr ⟨g, cap, cur, e1, e2, by rw [hb.block g (Array.getElem?_eq_some_iff.1 e3).1]; exact e3, e4⟩

set_option maxHeartbeats 4000000 in
set_option maxRecDepth 100000 in
theorem refActs_calls (acts : List (Txt × Txt)) (a b : Txt) (u : Value) (w : World) (hu : Prs w acts u) (hn : acts.length ≤ 1048576) :
    Calls Tryz.prog 53 #[u, .string a, .string b] w fun e w' => e = .returned (.bool (actsF acts a b)) ∧ Below w.heap.size w w' := by
  obtain ⟨b2, o2, c2, p2, rfl, hlc2, hc2, hp2, hcells2⟩ := hu.cells
  obtain ⟨t0, hi, hz0, hz1, hz2⟩ := info_parts Tryz.info_string
  obtain ⟨W0, eW⟩ : ∃ W0, w.alloc (.cells #[.string a] 9) = W0 := ⟨_, rfl⟩
  have hB0 : Below w.heap.size w W0 := by rw [← eW]; exact (Below.refl _ _).alloc (Nat.le_refl _) _
  have hO0 : W0.ownsRow w.heap.size 9 1 (.slice (some ⟨w.heap.size, 0, none⟩) 1 1) ([a] : List Txt).length (([a] : List Txt).map Value.string) := by
    rw [← eW]
    exact World.ownsRow_lit (base := w.heap.size) (e := 9) (size := 1) w #[.string a] 1 (Nat.le_refl _) (by unfold maxLen; omega) rfl
  have HB0 := Lib.hid hB0
  have HO0 := Lib.hid hO0
  have HC2 := Lib.hid hcells2
  have HP2 := Lib.hid hp2
  have HACT : Hid (actsF acts a b = bfs acts b (acts.length + 2 - 0) 0 [a]) := rfl
  clear hB0 hO0 hcells2 hp2 hu
  go_enter Tryz.func53, Tryz.ntmps53
  go_wp2
  go_loopw [7, 8] (fun s i ws => ∃ (k : Nat) (S : List Txt) (wo : World) (sv : Value), k ≤ S.length ∧ i = .int .i64 k ∧ wo = ws ∧ sv = s ∧ Hid (Below w.heap.size w wo) ∧ Hid (wo.ownsRow w.heap.size 9 1 sv S.length (S.map Value.string)) ∧ Hid (SeenOk acts a S) ∧ Hid (actsF acts a b = bfs acts b (acts.length + 2 - k) k S)) (fun _ i _ => acts.length + 2 - (intOf i).toNat)
  case atStart => exact ⟨0, [a], _, _, Nat.zero_le _, rfl, rfl, rfl, HB0.out, HO0.out, SeenOk.start acts a, HACT.out⟩
  case round =>
    clear HACT
    obtain ⟨k, S, wo, sv, hk, rfl, rfl, rfl, HB, HOW, HSO, HBF⟩ := hrel
    have hS := Strs.of_owns HOW.out
    obtain ⟨bs, os, cs, ps, rfl, hls, hcs, hps, hcs2⟩ := hS.cells
    have hle := HSO.out.le
    by_cases hlt : k < S.length
    · have hcell := hcs2 k hlt
      obtain rfl := hps (by omega)
      have hlt' : (k : Int) < (S.length : Int) := by omega
      clear hps hcs2
      have hfu : acts.length + 2 - k = (acts.length + 2 - (k + 1)) + 1 := by omega
      by_cases hx : S[k] = b
      · have HX : Hid (actsF acts a b = true) := by unfold Hid; rw [HBF.out, hfu]; exact bfs_hit hlt hx
        have hq : ((S[k]).toList == b.toList) = true := bytes_eq.2 hx
        clear hx hS hfu
        go_wp2
        go_ret
        exact ⟨by rw [HX.out]; rfl, HB.out⟩
      · have hq : ((S[k]).toList == b.toList) = false := by rw [← Bool.not_eq_true]; exact fun h => hx (bytes_eq.1 h)
        have HON : Hid (actsF acts a b = bfs acts b (acts.length + 2 - (k + 1)) (k + 1) (addN acts S[k] S)) := by unfold Hid; rw [HBF.out, hfu]; exact bfs_on hlt hx
        have HSK : Hid (S[k] ∈ S) := List.getElem_mem hlt
        have HLT := Lib.hid hlt
        clear hx hS hfu HBF
        go_wp2
        go_loopw [7, 27] (fun s i ws => ∃ (j : Nat) (wi : World) (sv : Value), j ≤ acts.length ∧ i = .int .i64 j ∧ wi = ws ∧ sv = s ∧ Hid (Below w.heap.size w wi) ∧ Hid (wi.ownsRow w.heap.size 9 1 sv (addN (acts.take j) S[k] S).length ((addN (acts.take j) S[k] S).map Value.string))) (fun _ i _ => acts.length - (intOf i).toNat)
        case atStart => exact ⟨0, _, _, Nat.zero_le _, rfl, rfl, rfl, HB.out, HOW.out⟩
        case round =>
          clear hcell
          obtain ⟨j, wi, sv, hj, rfl, rfl, rfl, HBI, HOI⟩ := hrel
          by_cases hltj : j < acts.length
          · obtain ⟨g1, g2⟩ := HC2.out j hltj
            have hcell1 : wi.cell? ⟨b2, o2 + j * 2, none⟩ = some (.string acts[j].1) := (HBI.out.cell (cell_lt g1)).trans g1
            have hcell2 : wi.cell? ⟨b2, o2 + j * 2 + 1, none⟩ = some (.string acts[j].2) := (HBI.out.cell (cell_lt g2)).trans g2
            obtain rfl := HP2.out (by omega)
            have HTK : Hid (addN (acts.take (j + 1)) S[k] S = addOne S[k] (addN (acts.take j) S[k] S) acts[j]) := addN_take hltj
            have HSO2 := Lib.hid (HSO.out.add HSK.out (acts.take j) fun p hp => List.mem_of_mem_take hp)
            have hlen2 := HSO2.out.le
            have hkl : k < (addN (acts.take j) S[k] S).length := addN_len HLT.out
            have HAT : Hid ((addN (acts.take j) S[k] S)[k] = S[k]) := addN_at HLT.out hkl
            generalize hT : addN (acts.take j) S[k] S = T at *
            have hS := Strs.of_owns HOI.out
            obtain ⟨bs, os, cs, ps, rfl, hls, hcs, hps, hcs2⟩ := hS.cells
            have hcell := hcs2 k hkl
            rw [HAT.out] at hcell
            obtain rfl := hps (by omega)
            clear hps hcs2 hT
            obtain ⟨W3, eW3⟩ : ∃ W3, wi.alloc (.cells #[.string acts[j].1, .string acts[j].2] 99) = W3 := ⟨_, rfl⟩
            obtain ⟨z3, hW3, m3⟩ := boxes1 eW3
            have j0 := m3 0
            have j1 := m3 1
            simp only [List.getElem?_toArray, List.getElem?_cons_zero, List.getElem?_cons_succ] at j0 j1
            have hcell3 : W3.cell? ⟨bs, os + k, none⟩ = some (.string S[k]) := (hW3.cell (cell_lt hcell)).trans hcell
            have hkl' : (k : Int) < (T.length : Int) := by omega
            have HW3 := Lib.hid hW3
            have HB3 : Hid (Below w.heap.size w W3) := HBI.out.trans (hW3.mono HBI.out.size)
            have HOW3 := Lib.hid (own_belowA HOI.out hW3)
            have HCT : Hid (∀ n, Calls Tryz.prog 16 #[.slice (some ⟨bs, os, none⟩) T.length cs, .string acts[j].2] (W3.drewN n) fun e w'' => e = .returned (.bool (has T acts[j].2)) ∧ w'' = W3.drewN n) := fun n =>
              (contains_calls T acts[j].2 _ (W3.drewN n) (hS.stays (keeps_of_below (below_drewN hW3 n)))).mono fun _ _ h => ⟨h.1, h.2.symm⟩
            clear g1 g2 m3 z3 hW3 hS
            cases hq1 : ((acts[j].1).toList == (S[k]).toList) with
            | false =>
              have HNX : Hid (addN (acts.take (j + 1)) S[k] S = T) := by
                unfold Hid; rw [HTK.out]; unfold addOne
                rw [if_neg]
                intro h
                rw [Bool.and_eq_true] at h
                rw [bytes_eq.2 (eq_of_beq h.1)] at hq1
                cases hq1
              go_wp2
              go_quiet ((go_at_call 16; exact Calls.quiet_of_same (HCT.out _)))
              go_wp2
              go_roundw
              case rel =>
                refine ⟨j + 1, _, _, by omega, by go_num, rfl, rfl, below_drewN HB3.out nq, ?_⟩
                unfold Hid
                rw [HNX.out]
                exact own_belowA HOW3.out (below_drewN (Below.refl _ _) nq)
              case measure => simp [intOf]; omega
            | true =>
              have hxe : acts[j].1 = S[k] := bytes_eq.1 hq1
              cases hh : has T acts[j].2 with
              | true =>
                have HNX : Hid (addN (acts.take (j + 1)) S[k] S = T) := by
                  unfold Hid; rw [HTK.out]; unfold addOne
                  rw [if_neg]
                  rw [hh]
                  simp
                rw [hh] at HCT
                clear hxe hh
                go_wp2
                go_quiet ((go_at_call 16; exact Calls.quiet_of_same (HCT.out _)))
                go_wp2
                go_roundw
                case rel =>
                  refine ⟨j + 1, _, _, by omega, by go_num, rfl, rfl, below_drewN HB3.out nq, ?_⟩
                  unfold Hid
                  rw [HNX.out]
                  exact own_belowA HOW3.out (below_drewN (Below.refl _ _) nq)
                case measure => simp [intOf]; omega
              | false =>
                have HHIT : Hid (addN (acts.take (j + 1)) S[k] S = T ++ [acts[j].2]) := by
                  unfold Hid; rw [HTK.out]; unfold addOne
                  rw [if_pos]
                  rw [hh, hxe]
                  simp
                rw [hh] at HCT
                clear hxe hh
                go_wp2
                go_quiet ((go_at_call 16; exact Calls.quiet_of_same (HCT.out _)))
                obtain ⟨W5, e5⟩ : ∃ W5, W3.drewN nq = W5 := ⟨_, rfl⟩
                have hb5 : Below W3.heap.size W3 W5 := by rw [← e5]; exact below_drewN (Below.refl _ _) nq
                have j5 : W5.cell? ⟨wi.heap.size, 1, none⟩ = some (.string acts[j].2) := (hb5.cell (cell_lt j1)).trans j1
                have hown5 := own_belowA HOW3.out hb5
                have HB5 : Hid (Below w.heap.size w W5) := HB3.out.trans (hb5.mono HB3.out.size)
                have hsz5 := HB5.out.size
                rw [e5]
                clear e5 hb5 j0 j1 hcell1 hcell2 hcell3 hcell
                go_wp2_with (at_builtin; refine wpList_append_own _ rfl _ _ 22 rfl w.heap.size 9 t0 (.string ByteArray.empty) 1 16 Tryz.underlying22 hi hz0 hz1 hz2 rfl (by decide) _ _ _ rfl (hown5.alloc _) ⟨W5.heap.size, 0, none⟩ 1 1 [.string acts[j].2] rfl rfl ?c1 ?c2 ?c3 ?c4 ?c5 ?_)
                case c1 =>
                  intro i u hj
                  match i, hj with
                  | 0, hj => simp at hj; subst hj; simp [Addr.add]
                case c2 => intro u hu; simp at hu; subst hu; rfl
                case c3 => unfold maxLen; omega
                case c4 => omega
                case c5 => simp; omega
                · intro v' w6 hown' hgrow _
                  go_wp2
                  go_roundw
                  case rel =>
                    refine ⟨j + 1, _, _, by omega, by go_num, rfl, rfl, (HB5.out.alloc HB5.out.size _).grown hgrow (by simp; omega) (fun q hq => (hown5.lt q hq).1), ?_⟩
                    unfold Hid
                    rw [HHIT.out]
                    simpa using hown'
                  case measure => simp [intOf]; omega
          · obtain rfl : j = acts.length := by omega
            rw [List.take_length] at HOI
            have hkl := addN_len (acts := acts) (x := S[k]) HLT.out
            have HNEW := Lib.hid (HSO.out.add HSK.out acts fun p hp => hp)
            go_wp2
            go_roundw
            case rel => exact ⟨k + 1, addN acts S[k] S, _, _, by omega, by go_num, rfl, rfl, HBI.out, HOI.out, HNEW.out, HON.out⟩
            case measure => simp [intOf]; omega
    · have HX : Hid (actsF acts a b = false) := by unfold Hid; rw [HBF.out]; exact bfs_end hlt
      have hlt' : ¬ (k : Int) < (S.length : Int) := by omega
      clear hps hcs2 hS
      go_wp2
      go_ret
      exact ⟨by rw [HX.out]; rfl, HB.out⟩
end Go.Proofs.YtcgihpfanfbonaaGreatDoor
namespace Go.Proofs.YtcgihpfanfbonaaGreatDoor
open Go.RowKit Go.Maps
set_option linter.unusedVariables false
set_option linter.unusedSimpArgs false

set_option maxHeartbeats 400000 in
set_option maxRecDepth 100000 in
theorem refLabel_calls (l : List Txt) (x : Lab) (v u : Value) (w : World) (hv : Strs w l v) (hu : Lbl w x u) :
    Calls Tryz.prog 24 #[v, u] w fun e w' => e = .returned (.int .i64 (labErr l x)) ∧ Below w.heap.size w w' := by
  have hv0 := hv
  obtain ⟨b0, o0, c0, p0, rfl, hlc, hcm, hp0, hcells0⟩ := hv.cells
  obtain ⟨b, o, c, p, rfl, hlc1, hcm1, hp, hcells⟩ := hu.cells
  clear hp0 hcells0 hv hu
  obtain ⟨t0, hi, hz0, hz1, hz2⟩ := info_parts Tryz.info_stringL
  by_cases h0 : x.length ≤ 200
  · have h0' : (x.length : Int) ≤ 200 := by omega
    go_enter Tryz.func24, Tryz.ntmps24
    go_wp2
    go_loopw [14] (fun i wr => ∃ k : Nat, k ≤ x.length ∧ i = .int .i64 k ∧ Below w.heap.size w wr ∧ Hid (∀ j (hj : j < x.length), j < k → polErr l x[j] = 0)) (fun i _ => x.length - (intOf i).toNat)
    case atStart => exact ⟨0, Nat.zero_le _, rfl, Below.refl _ _, fun j _ hj => absurd hj (Nat.not_lt_zero _)⟩
    case round =>
      obtain ⟨k, hk, rfl, hb, HN⟩ := hrel
      by_cases hlt : k < x.length
      · obtain ⟨ur, hca, hcb, hur⟩ := hcells k hlt
        have hcell1 : wr.cell? ⟨b, o + k * 2, none⟩ = some (.string x[k].1) := (hb.cell (cell_lt hca)).trans hca
        have hcell2 : wr.cell? ⟨b, o + k * 2 + 1, none⟩ = some ur := (hb.cell (cell_lt hcb)).trans hcb
        obtain rfl := hp (by omega)
        clear hp hcells hca hcb
        obtain ⟨pr, cr, xs, rfl, hl1, hl2, hrow, hpn, hnews⟩ := SliceOf.rows (by decide) hur
        by_cases h6 : 6 < x[k].2.length
        · have h6' : 6 < (x[k].2.length : Int) := by omega
          have HX : Hid (labErr l x = 2) := by
            show labErr l x = 2
            have e := polErr_many (l := l) h6
            rw [labErr_at h0 hlt (by rw [e]; omega) HN.out, e]
          go_wp2
          go_ret
          exact ⟨ret_int HX.out.symm, hb.alloc hb.size _⟩
        · have h6' : (x[k].2.length : Int) ≤ 6 := by omega
          have hbA : Below w.heap.size w (wr.alloc (.cells #[.string x[k].1, .slice pr x[k].2.length cr] 37)) := hb.alloc hb.size _
          have hk2 := keeps_of_below (((Below.refl wr.heap.size wr).alloc (Nat.le_refl _) (.cells #[.string x[k].1, .slice pr x[k].2.length cr] 37)).alloc (by simp) (.cells #[.string x[k].1] 9))
          have hk3 := (keeps_of_below hb).trans hk2
          have HB := Lib.hid hb
          have HROW := Lib.hid hrow
          have HNEWS := Lib.hid hnews
          have hsize := hb.size
          have hlen6 : x[k].2.length ≤ 6 := by omega
          have hown0 : ((wr.alloc (.cells #[.string x[k].1, .slice pr x[k].2.length cr] 37)).alloc (.cells #[.string x[k].1] 9)).ownsRow w.heap.size 9 1 (.slice (some ⟨wr.heap.size + 1, 0, none⟩) 1 1) 1 [.string x[k].1] := by
            have := World.ownsRow_lit (base := w.heap.size) (e := 9) (size := 1) (wr.alloc (.cells #[.string x[k].1, .slice pr x[k].2.length cr] 37)) #[.string x[k].1] 1 hbA.size (by unfold maxLen; decide) rfl
            simpa using this
          clear hrow hnews hur hbA hk2
          go_wp2_with (at_builtin; refine wpList_append_src _ rfl _ _ 22 rfl w.heap.size 9 t0 (.string ByteArray.empty) 1 16 Tryz.underlying22 hi hz0 hz1 hz2 rfl (by decide) _ _ _ rfl hown0 pr x[k].2.length cr xs rfl HROW.out.length hpn ?c1 (Rows.plain txt_plain HROW.out) ?c2 ?c3 ?c4 ?_)
          case c1 => exact fun ad e j u hu => cell_keep hk3 (HNEWS.out ad e j u hu)
          case c2 => unfold maxLen; omega
          case c3 => omega
          case c4 => simp; omega
          · intro v' w5 hown' hgrow
            have hS : Strs w5 (x[k].1 :: x[k].2) v' := strs_of_own hown' rfl (Rows.free (One.free _) HROW.out)
            have hb5 : Below w.heap.size w w5 := ((HB.out.alloc HB.out.size _).alloc (by have := HB.out.size; simp; omega) _).grown hgrow (by have := HB.out.size; simp; omega) (fun q hq => by simp [Value.ownBlock] at hq; have := HB.out.size; omega)
            have HB5 := Lib.hid hb5
            generalize hys : x[k].1 :: x[k].2 = ys at hS
            have HYS := Lib.hid hys
            obtain ⟨b7, o7, c7, p7, rfl, hl7, hc7, hp7, hcells7⟩ := hS.cells
            obtain rfl := hp7 (by rw [← hys]; simp)
            clear hys
            clear hown' hgrow hS hk3 hcell1 hcell2 hb hp7
            go_wp2
            go_loopw [8, 29] (fun _ i wr => ∃ m : Nat, m ≤ ys.length ∧ i = .int .i64 m ∧ Below w5.heap.size w5 wr ∧ Hid (∀ j (hj : j < ys.length), j < m → has l ys[j] = true)) (fun _ i _ => ys.length - (intOf i).toNat)
            case atStart => exact ⟨0, Nat.zero_le _, rfl, Below.refl _ _, fun j _ hj => absurd hj (Nat.not_lt_zero _)⟩
            case round =>
              obtain ⟨m, hm, rfl, hbr, HM⟩ := hrel
              have hbw : Below w.heap.size w wr := HB5.out.trans (hbr.mono HB5.out.size)
              by_cases hltm : m < ys.length
              · have hcell : wr.cell? ⟨b7, o7 + m, none⟩ = some (.string ys[m]) := (hbr.cell (cell_lt (hcells7 m hltm))).trans (hcells7 m hltm)
                clear hcells7
                have hS := hv0.stays (keeps_of_below hbw)
                generalize hy : ys[m] = y at *
                have HY := Lib.hid hy
                clear hy
                cases hh : has l y with
                | true =>
                  have HH := Lib.hid hh
                  go_wp2_with (fail)
                  refine (contains_calls l y _ _ hS).mono ?_
                  rintro e w' ⟨rfl, rfl⟩
                  rw [hh]
                  clear hh
                  go_wp2
                  go_roundw
                  case rel =>
                    refine ⟨m + 1, by omega, by go_num, hbr, fun j hj hj' => ?_⟩
                    by_cases e : j = m
                    · subst e; rw [HY.out]; exact HH.out
                    · exact HM.out j hj (by omega)
                  case measure => simp [intOf]; omega
                | false =>
                  have HX : Hid (labErr l x = 5) := by
                    show labErr l x = 5
                    have e := polErr_who HYS.out h6 hltm (by rw [HY.out]; exact hh)
                    rw [labErr_at h0 hlt (by rw [e]; omega) HN.out, e]
                  go_wp2_with (fail)
                  refine (contains_calls l y _ _ hS).mono ?_
                  rintro e w' ⟨rfl, rfl⟩
                  rw [hh]
                  clear hh
                  go_wp2
                  go_ret
                  exact ⟨ret_int HX.out.symm, hbw⟩
              · have HX : Hid (polErr l x[k] = 0) := polErr_ok HYS.out h6 fun j hj => HM.out j hj (by omega)
                clear hcells7
                go_wp2
                go_roundw
                case rel =>
                  refine ⟨k + 1, by omega, by go_num, hbw, fun j hj hj' => ?_⟩
                  by_cases e : j = k
                  · subst e; exact HX.out
                  · exact HN.out j hj (by omega)
                case measure => simp [intOf]; omega
      · have HX : Hid (labErr l x = 0) := labErr_none h0 fun j hj => HN.out j hj (by omega)
        clear hp hcells
        go_wp2
        go_ret
        exact ⟨ret_int HX.out.symm, hb⟩
  · have h0' : 200 < (x.length : Int) := by omega
    have HX : Hid (labErr l x = 2) := by show labErr l x = 2; unfold labErr; rw [if_pos (by omega)]
    go_enter Tryz.func24, Tryz.ntmps24
    go_wp2
    go_ret
    exact ⟨ret_int HX.out.symm, Below.refl _ _⟩

section
variable {q : Txt → Txt → Bool} {p x : Pol} {ys : List Txt} {s : Txt}
theorem lets_ys (e : p.1 :: p.2 = ys) : letsB q p s = anyBy ys fun r => q s r := by
  subst e; unfold letsB anyBy; rw [List.any_cons]
theorem lets_hitR (e : p.1 :: p.2 = ys) {k : Nat} (hk : k < ys.length) (h : q s ys[k] = true) : letsB q p s = true := by
  rw [lets_ys e, any_iff]; exact ⟨_, List.getElem_mem hk, h⟩
theorem lets_missR (e : p.1 :: p.2 = ys) (h : ∀ k (hk : k < ys.length), q s ys[k] = false) : letsB q p s = false := by
  rw [lets_ys e, ← Bool.not_eq_true, any_iff]
  rintro ⟨x, hx, hq⟩
  obtain ⟨k, hk, rfl⟩ := List.getElem_of_mem hx
  rw [h k hk] at hq; cases hq
theorem covers_no1 (h : q p.1 x.1 = false) : coversB q p x = false := by unfold coversB; rw [h]; rfl
theorem covers_no2 {rs : List Txt} (e : p.2 = rs) {k : Nat} (hk : k < rs.length) (h : letsB q x rs[k] = false) : coversB q p x = false := by
  subst e
  rw [← Bool.not_eq_true, covers_iff]
  rintro ⟨_, h2⟩
  rw [h2 _ (List.getElem_mem hk)] at h; cases h
theorem covers_yes {rs : List Txt} (e : p.2 = rs) (h1 : q p.1 x.1 = true) (h : ∀ k (hk : k < rs.length), letsB q x rs[k] = true) : coversB q p x = true := by
  subst e
  rw [covers_iff]
  refine ⟨h1, fun r hr => ?_⟩
  obtain ⟨k, hk, rfl⟩ := List.getElem_of_mem hr
  exact h k hk
end

set_option maxHeartbeats 800000 in
set_option maxRecDepth 100000 in
theorem refLets_calls (acts : List (Txt × Txt)) (p : Pol) (s : Txt) (u vr : Value) (w : World) (hu : Prs w acts u) (hr : Strs w p.2 vr) (hn : acts.length ≤ 10) (h6 : p.2.length ≤ 6) :
    Calls Tryz.prog 83 #[u, .agg #[.string p.1, vr], .string s] w fun e w' => e = .returned (.bool (letsB (actsF acts) p s)) ∧ Below w.heap.size w w' := by
  obtain ⟨o, rs⟩ := p
  simp only at hr h6
  obtain ⟨t0, hi, hz0, hz1, hz2⟩ := info_parts Tryz.info_stringL
  have hu0 := hu
  obtain ⟨b1, o1, c1, p1, rfl, _⟩ := hu.cells
  obtain ⟨pr, cr, xs, rfl, hl1, hl2, hrow, hpn, hnews⟩ := SliceOf.rows (by decide) hr
  have HU : Hid (∀ W, Below w.heap.size w W → Prs W acts (.slice p1 acts.length c1)) := fun W h => hu0.stays (keeps_of_below h)
  have hbA : Below w.heap.size w (w.alloc (.cells #[.string o, .slice pr rs.length cr] 37)) := (Below.refl _ _).alloc (Nat.le_refl _) _
  have hk2 := keeps_of_below (((Below.refl w.heap.size w).alloc (Nat.le_refl _) (.cells #[.string o, .slice pr rs.length cr] 37)).alloc (by simp) (.cells #[.string o] 9))
  have HROW := Lib.hid hrow
  have HNEWS := Lib.hid hnews
  have HK2 := Lib.hid hk2
  have hown0 : ((w.alloc (.cells #[.string o, .slice pr rs.length cr] 37)).alloc (.cells #[.string o] 9)).ownsRow w.heap.size 9 1 (.slice (some ⟨w.heap.size + 1, 0, none⟩) 1 1) 1 [.string o] := by
    have := World.ownsRow_lit (base := w.heap.size) (e := 9) (size := 1) (w.alloc (.cells #[.string o, .slice pr rs.length cr] 37)) #[.string o] 1 hbA.size (by unfold maxLen; decide) rfl
    simpa using this
  have HN := Lib.hid hn
  clear hrow hnews hr hbA hk2 hu hu0 hn
  go_enter Tryz.func83, Tryz.ntmps83
  go_wp2_with (at_builtin; refine wpList_append_src _ rfl _ _ 22 rfl w.heap.size 9 t0 (.string ByteArray.empty) 1 16 Tryz.underlying22 hi hz0 hz1 hz2 rfl (by decide) _ _ _ rfl hown0 pr rs.length cr xs rfl HROW.out.length hpn ?c1 (Rows.plain txt_plain HROW.out) ?c2 ?c3 ?c4 ?_)
  case c1 => exact fun ad e j u hu => cell_keep HK2.out (HNEWS.out ad e j u hu)
  case c2 => unfold maxLen; omega
  case c3 => omega
  case c4 => simp; omega
  · intro v' w5 hown' hgrow
    have hS : Strs w5 (o :: rs) v' := strs_of_own hown' rfl (Rows.free (One.free _) HROW.out)
    have hb5 : Below w.heap.size w w5 := (((Below.refl w.heap.size w).alloc (Nat.le_refl _) _).alloc (by simp) _).grown hgrow (by simp; omega) (fun q hq => by simp [Value.ownBlock] at hq; omega)
    have HB5 := Lib.hid hb5
    generalize hys : o :: rs = ys at hS
    have HYS : Hid ((o, rs).1 :: (o, rs).2 = ys) := hys
    obtain ⟨b7, o7, c7, p7, rfl, hl7, hc7, hp7, hcells7⟩ := hS.cells
    obtain rfl := hp7 (by rw [← hys]; simp)
    clear hys
    clear hown' hgrow hS HK2 hp7 hb5
    go_wp2
    go_loopw [8, 16] (fun _ i wr => ∃ m : Nat, m ≤ ys.length ∧ i = .int .i64 m ∧ Below w5.heap.size w5 wr ∧ Hid (∀ j (hj : j < ys.length), j < m → actsF acts s ys[j] = false)) (fun _ i _ => ys.length - (intOf i).toNat)
    case atStart => exact ⟨0, Nat.zero_le _, rfl, Below.refl _ _, fun j _ hj => absurd hj (Nat.not_lt_zero _)⟩
    case round =>
      obtain ⟨m, hm, rfl, hbr, HM⟩ := hrel
      have hbw : Below w.heap.size w wr := HB5.out.trans (hbr.mono HB5.out.size)
      by_cases hltm : m < ys.length
      · have hcell : wr.cell? ⟨b7, o7 + m, none⟩ = some (.string ys[m]) := (hbr.cell (cell_lt (hcells7 m hltm))).trans (hcells7 m hltm)
        have HLT := Lib.hid hltm
        have HBR := Lib.hid hbr
        have HBW := Lib.hid hbw
        clear hcells7 hbr hbw
        cases hh : actsF acts s ys[m] with
        | true =>
          have HX : Hid (letsB (actsF acts) (o, rs) s = true) := lets_hitR HYS.out hltm hh
          have HH := Lib.hid hh
          clear hh
          go_wp2_with (fail)
          refine (refActs_calls acts s ys[m] _ _ (HU.out _ HBW.out) (by have := HN.out; omega)).mono ?_
          rintro e w6 ⟨rfl, hb6⟩
          rw [HH.out]
          go_wp2
          go_ret
          exact ⟨ret_bool HX.out.symm, HBW.out.trans (hb6.mono HBW.out.size)⟩
        | false =>
          have HH := Lib.hid hh
          clear hh
          go_wp2_with (fail)
          refine (refActs_calls acts s ys[m] _ _ (HU.out _ HBW.out) (by have := HN.out; omega)).mono ?_
          rintro e w6 ⟨rfl, hb6⟩
          rw [HH.out]
          have HB6 := Lib.hid (HBR.out.trans (hb6.mono HBR.out.size))
          clear hb6
          go_wp2
          go_roundw
          case rel =>
            refine ⟨m + 1, by omega, by go_num, HB6.out, fun j hj hj' => ?_⟩
            by_cases e : j = m
            · subst e; exact HH.out
            · exact HM.out j hj (by omega)
          case measure => simp [intOf]; omega
      · have HX : Hid (letsB (actsF acts) (o, rs) s = false) := lets_missR HYS.out fun j hj => HM.out j hj (by omega)
        clear hcells7
        go_wp2
        go_ret
        exact ⟨ret_bool HX.out.symm, hbw⟩

set_option maxHeartbeats 800000 in
set_option maxRecDepth 100000 in
theorem refCovers_calls (acts : List (Txt × Txt)) (p x : Pol) (u vp vx : Value) (w : World) (hu : Prs w acts u) (hr : Strs w p.2 vp) (hs : Strs w x.2 vx) (hn : acts.length ≤ 10) (h6 : x.2.length ≤ 6) :
    Calls Tryz.prog 49 #[u, .agg #[.string p.1, vp], .agg #[.string x.1, vx]] w fun e w' => e = .returned (.bool (coversB (actsF acts) p x)) ∧ Below w.heap.size w w' := by
  obtain ⟨o, rs⟩ := p
  obtain ⟨ox, rx⟩ := x
  simp only at hr hs h6
  have hu0 := hu
  have hs0 := hs
  obtain ⟨b1, o1, c1, p1, rfl, _⟩ := hu.cells
  obtain ⟨b0, o0, c0, p0, rfl, hlc, hcm, hp0, hcells⟩ := hr.cells
  obtain ⟨b2, o2, c2, p2, rfl, _⟩ := hs.cells
  have HU : Hid (∀ W, Below w.heap.size w W → Prs W acts (.slice p1 acts.length c1)) := fun W h => hu0.stays (keeps_of_below h)
  have HSX : Hid (∀ W, Below w.heap.size w W → Strs W rx (.slice p2 rx.length c2)) := fun W h => hs0.stays (keeps_of_below h)
  obtain ⟨W2, eW⟩ : ∃ W2, (w.alloc (.cells #[.string o, .slice p0 rs.length c0] 37)).alloc (.cells #[.string ox, .slice p2 rx.length c2] 37) = W2 := ⟨_, rfl⟩
  obtain ⟨z2, hW, m1, m2⟩ := boxes2 eW
  have hc1 := m1 0
  have hc2 := m1 1
  have hc3 := m2 0
  have hc4 := m2 1
  simp only [List.getElem?_toArray, List.getElem?_cons_zero, List.getElem?_cons_succ] at hc1 hc2 hc3 hc4
  have HW := Lib.hid hW
  have HZ := Lib.hid z2
  have HC2 := Lib.hid hc2
  have HC3 := Lib.hid hc3
  have HC4 := Lib.hid hc4
  have HCE : Hid (∀ (i : Nat) (h : i < rs.length), W2.cell? ⟨b0, o0 + i, none⟩ = some (.string rs[i])) := fun i h => (hW.cell (cell_lt (hcells i h))).trans (hcells i h)
  have HPP := Lib.hid hp0
  have HN := Lib.hid hn
  have H6 := Lib.hid h6
  clear m1 m2 hW z2 hu hu0 hs hs0 hr hp0 hcells hn h6
  cases hq : actsF acts o ox with
  | false =>
    have HX : Hid (coversB (actsF acts) (o, rs) (ox, rx) = false) := covers_no1 hq
    have HQ := Lib.hid hq
    clear hq
    go_enter Tryz.func49, Tryz.ntmps49
    go_wp2_with (fail)
    refine (refActs_calls acts o ox _ _ (HU.out _ HW.out) (by have := HN.out; omega)).mono ?_
    rintro e w1 ⟨rfl, hb⟩
    rw [HQ.out]
    go_wp2
    go_ret
    exact ⟨ret_bool HX.out.symm, HW.out.trans (hb.mono HW.out.size)⟩
  | true =>
    have HQ := Lib.hid hq
    clear hq
    go_enter Tryz.func49, Tryz.ntmps49
    go_wp2_with (fail)
    refine (refActs_calls acts o ox _ _ (HU.out _ HW.out) (by have := HN.out; omega)).mono ?_
    rintro e w1 ⟨rfl, hb⟩
    rw [HQ.out]
    have hz := HZ.out
    have hc2' : w1.cell? ⟨w.heap.size, 1, none⟩ = some (.slice p0 rs.length c0) := (hb.cell (p := ⟨w.heap.size, 1, none⟩) (by simp only; omega)).trans HC2.out
    have HB := Lib.hid hb
    clear hb hc1 hc2 hc3 hc4 hz
    go_wp2
    go_loopw [8, 19] (fun _ i wr => ∃ m : Nat, m ≤ rs.length ∧ i = .int .i64 m ∧ Below w1.heap.size w1 wr ∧ Hid (∀ j (hj : j < rs.length), j < m → letsB (actsF acts) (ox, rx) rs[j] = true)) (fun _ i _ => rs.length - (intOf i).toNat)
    case atStart => exact ⟨0, Nat.zero_le _, rfl, Below.refl _ _, fun j _ hj => absurd hj (Nat.not_lt_zero _)⟩
    case round =>
      obtain ⟨m, hm, rfl, hbr, HM⟩ := hrel
      have hb2 : Below W2.heap.size W2 wr := HB.out.trans (hbr.mono HB.out.size)
      have hbw : Below w.heap.size w wr := HW.out.trans (hb2.mono HW.out.size)
      by_cases hltm : m < rs.length
      · have hcell : wr.cell? ⟨b0, o0 + m, none⟩ = some (.string rs[m]) := (hb2.cell (cell_lt (HCE.out m hltm))).trans (HCE.out m hltm)
        have hz := HZ.out
        have hd3 : wr.cell? ⟨w.heap.size + 1, 0, none⟩ = some (.string ox) := (hb2.cell (p := ⟨w.heap.size + 1, 0, none⟩) (by simp only; omega)).trans HC3.out
        have hd4 : wr.cell? ⟨w.heap.size + 1, 1, none⟩ = some (.slice p2 rx.length c2) := (hb2.cell (p := ⟨w.heap.size + 1, 1, none⟩) (by simp only; omega)).trans HC4.out
        obtain rfl := HPP.out (by omega)
        have HLT := Lib.hid hltm
        have HBR := Lib.hid hbr
        have HBW := Lib.hid hbw
        clear hbr hbw hb2 hz hc2'
        cases hh : letsB (actsF acts) (ox, rx) rs[m] with
        | true =>
          have HH := Lib.hid hh
          clear hh
          go_wp2_with (fail)
          refine (refLets_calls acts (ox, rx) rs[m] _ _ _ (HU.out _ HBW.out) (HSX.out _ HBW.out) HN.out H6.out).mono ?_
          rintro e w6 ⟨rfl, hb6⟩
          rw [HH.out]
          have HB6 := Lib.hid (HBR.out.trans (hb6.mono HBR.out.size))
          clear hb6
          go_wp2
          go_roundw
          case rel =>
            refine ⟨m + 1, by omega, by go_num, HB6.out, fun j hj hj' => ?_⟩
            by_cases e : j = m
            · subst e; exact HH.out
            · exact HM.out j hj (by omega)
          case measure => simp [intOf]; omega
        | false =>
          have HX : Hid (coversB (actsF acts) (o, rs) (ox, rx) = false) := covers_no2 (p := (o, rs)) rfl hltm hh
          have HH := Lib.hid hh
          clear hh
          go_wp2_with (fail)
          refine (refLets_calls acts (ox, rx) rs[m] _ _ _ (HU.out _ HBW.out) (HSX.out _ HBW.out) HN.out H6.out).mono ?_
          rintro e w6 ⟨rfl, hb6⟩
          rw [HH.out]
          go_wp2
          go_ret
          exact ⟨ret_bool HX.out.symm, HBW.out.trans (hb6.mono HBW.out.size)⟩
      · have HX : Hid (coversB (actsF acts) (o, rs) (ox, rx) = true) := covers_yes (p := (o, rs)) (rs := rs) rfl HQ.out fun j hj => HM.out j hj (by omega)
        have HBW := Lib.hid hbw
        clear hbw hb2 hbr hc2'
        go_wp2
        go_ret
        exact ⟨ret_bool HX.out.symm, HBW.out⟩

theorem any_takeT {α : Type} {l : List α} {f : α → Bool} {k : Nat} (hk : k < l.length) (h : f l[k] = true) : anyBy (l.take (k + 1)) f = true := by
  rw [any_iff]; exact ⟨l[k], by rw [List.take_succ_eq_append_getElem hk]; exact List.mem_append_right _ (List.mem_singleton.2 rfl), h⟩
theorem any_takeF {α : Type} {l : List α} {f : α → Bool} {k : Nat} (hk : k < l.length) (h : f l[k] = false) : anyBy (l.take (k + 1)) f = anyBy (l.take k) f := by
  unfold anyBy; rw [List.take_succ_eq_append_getElem hk, List.any_append]; simp [h]
theorem any_takeK {α : Type} {l : List α} {f : α → Bool} {k : Nat} (hk : k < l.length) (h : anyBy (l.take k) f = true) : anyBy (l.take (k + 1)) f = true := by
  unfold anyBy at *; rw [List.take_succ_eq_append_getElem hk, List.any_append, h]; rfl
theorem flows_no {q : Txt → Txt → Bool} {a b : Lab} {k : Nat} (hk : k < a.length) (h : (anyBy b fun p => coversB q p a[k]) = false) : flowsB q a b = false := by
  rw [← Bool.not_eq_true, flows_iff]
  intro hf
  obtain ⟨p, hp, e⟩ := hf _ (List.getElem_mem hk)
  have := (any_iff (q := fun p => coversB q p a[k])).2 ⟨p, hp, e⟩
  rw [h] at this
  cases this
theorem flows_yes {q : Txt → Txt → Bool} {a b : Lab} (h : ∀ j (hj : j < a.length), (anyBy b fun p => coversB q p a[j]) = true) : flowsB q a b = true := by
  rw [flows_iff]
  intro x hx
  obtain ⟨k, hk, rfl⟩ := List.getElem_of_mem hx
  exact any_iff.1 (h k hk)

set_option maxHeartbeats 1600000 in
set_option maxRecDepth 100000 in
theorem refMay_calls (acts : List (Txt × Txt)) (a b : Lab) (u va vb : Value) (w : World) (hu : Prs w acts u) (hva : Lbl w a va) (hvb : Lbl w b vb) (hn : acts.length ≤ 10) (h6 : ∀ x ∈ a, x.2.length ≤ 6) :
    Calls Tryz.prog 25 #[u, va, vb] w fun e w' => e = .returned (.bool (flowsB (actsF acts) a b)) ∧ Below w.heap.size w w' := by
  have hu0 := hu
  obtain ⟨b1, o1, c1, p1, rfl, _⟩ := hu.cells
  obtain ⟨b2, o2, c2, p2, rfl, hlc2, hcm2, hp2, hcells2⟩ := hva.cells
  obtain ⟨b3, o3, c3, p3, rfl, hlc3, hcm3, hp3, hcells3⟩ := hvb.cells
  have HU : Hid (∀ W, Below w.heap.size w W → Prs W acts (.slice p1 acts.length c1)) := fun W h => hu0.stays (keeps_of_below h)
  have HP2 := Lib.hid hp2
  have HP3 := Lib.hid hp3
  have HC2 := Lib.hid hcells2
  have HC3 := Lib.hid hcells3
  have HN := Lib.hid hn
  have H6 := Lib.hid h6
  clear hu hu0 hva hvb hp2 hp3 hcells2 hcells3 hn h6
  go_enter Tryz.func25, Tryz.ntmps25
  go_wp2
  go_loopw [14] (fun i wr => ∃ (k : Nat) (wo : World), k ≤ a.length ∧ i = .int .i64 k ∧ wo = wr ∧ Hid (Below w.heap.size w wo) ∧ Hid (∀ j (hj : j < a.length), j < k → (anyBy b fun p => coversB (actsF acts) p a[j]) = true)) (fun i _ => a.length - (intOf i).toNat)
  case atStart => exact ⟨0, _, Nat.zero_le _, rfl, rfl, Below.refl _ _, fun j _ hj => absurd hj (Nat.not_lt_zero _)⟩
  case round =>
    obtain ⟨k, wo, hk, rfl, rfl, HB, HM⟩ := hrel
    by_cases hlt : k < a.length
    · obtain ⟨ur, hca, hcb, hur⟩ := HC2.out k hlt
      have hcell1 : wo.cell? ⟨b2, o2 + k * 2, none⟩ = some (.string a[k].1) := (HB.out.cell (cell_lt hca)).trans hca
      have hcell2 : wo.cell? ⟨b2, o2 + k * 2 + 1, none⟩ = some ur := (HB.out.cell (cell_lt hcb)).trans hcb
      obtain rfl := HP2.out (by omega)
      obtain ⟨br, or_, cr, pr, rfl, _⟩ := hur.cells
      have HSX : Hid (∀ W, Below w.heap.size w W → Strs W a[k].2 (.slice pr a[k].2.length cr)) := fun W h => hur.stays (keeps_of_below h)
      have H6K : Hid (a[k].2.length ≤ 6) := H6.out _ (List.getElem_mem hlt)
      have HLT := Lib.hid hlt
      obtain ⟨W3, eW⟩ : ∃ W3, wo.alloc (.cells #[.string a[k].1, .slice pr a[k].2.length cr] 37) = W3 := ⟨_, rfl⟩
      obtain ⟨z3, hW, m3⟩ := boxes1 eW
      have j0 := m3 0
      have j1 := m3 1
      simp only [List.getElem?_toArray, List.getElem?_cons_zero, List.getElem?_cons_succ] at j0 j1
      have HJ0 := Lib.hid j0
      have HJ1 := Lib.hid j1
      have HZ := Lib.hid z3
      have HB3 : Hid (Below w.heap.size w W3) := HB.out.trans (hW.mono HB.out.size)
      clear hca hcb hur m3 hW z3 j0 j1
      go_wp2
      go_loopw [9, 20] (fun t i wr => ∃ (m : Nat) (wi : World), m ≤ b.length ∧ i = .int .i64 m ∧ t = .bool (anyBy (b.take m) fun p => coversB (actsF acts) p a[k]) ∧ wi = wr ∧ Hid (Below W3.heap.size W3 wi)) (fun _ i _ => b.length - (intOf i).toNat)
      case atStart => exact ⟨0, _, Nat.zero_le _, rfl, rfl, rfl, by unfold Hid; subst eW; exact Below.refl _ _⟩
      case round =>
        clear hcell1 hcell2
        obtain ⟨m, wi, hm, rfl, rfl, rfl, HBI⟩ := hrel
        have HBW : Hid (Below w.heap.size w wi) := HB3.out.trans (HBI.out.mono HB3.out.size)
        by_cases hltm : m < b.length
        · obtain ⟨us, hca, hcb, hus⟩ := HC3.out m hltm
          have hcell1 : wi.cell? ⟨b3, o3 + m * 2, none⟩ = some (.string b[m].1) := (HBW.out.cell (cell_lt hca)).trans hca
          have hcell2 : wi.cell? ⟨b3, o3 + m * 2 + 1, none⟩ = some us := (HBW.out.cell (cell_lt hcb)).trans hcb
          obtain rfl := HP3.out (by omega)
          obtain ⟨bs, os, cs, ps, rfl, _⟩ := hus.cells
          obtain ⟨W5, eW5⟩ : ∃ W5, wi.alloc (.cells #[.string b[m].1, .slice ps b[m].2.length cs] 37) = W5 := ⟨_, rfl⟩
          obtain ⟨z5, hW5, m5⟩ := boxes1 eW5
          have j0 := m5 0
          have j1 := m5 1
          simp only [List.getElem?_toArray, List.getElem?_cons_zero, List.getElem?_cons_succ] at j0 j1
          have HB5 : Hid (Below W3.heap.size W3 W5) := HBI.out.trans (hW5.mono HBI.out.size)
          have HBW5 : Hid (Below w.heap.size w W5) := HB3.out.trans (HB5.out.mono HB3.out.size)
          have HSP : Hid (Strs W5 b[m].2 (.slice ps b[m].2.length cs)) := hus.stays (keeps_of_below HBW5.out)
          have hz := HZ.out
          have k0 : W5.cell? ⟨wo.heap.size, 0, none⟩ = some (.string a[k].1) := (HB5.out.cell (p := ⟨wo.heap.size, 0, none⟩) (by simp only; omega)).trans HJ0.out
          have k1 : W5.cell? ⟨wo.heap.size, 1, none⟩ = some (.slice pr a[k].2.length cr) := (HB5.out.cell (p := ⟨wo.heap.size, 1, none⟩) (by simp only; omega)).trans HJ1.out
          have HLTM := Lib.hid hltm
          clear hca hcb hus m5 hW5 z5 hz
          cases hok : anyBy (b.take m) fun p => coversB (actsF acts) p a[k] with
          | true =>
            have HX : Hid ((anyBy (b.take (m + 1)) fun p => coversB (actsF acts) p a[k]) = true) := any_takeK hltm hok
            clear hok
            go_wp2
            go_roundw
            case rel => exact ⟨m + 1, _, by omega, by go_num, by rw [HX.out], rfl, HB5.out⟩
            case measure => simp [intOf]; omega
          | false =>
            have HX : Hid ((anyBy (b.take (m + 1)) fun p => coversB (actsF acts) p a[k]) = coversB (actsF acts) b[m] a[k]) := by
              unfold Hid
              cases hc : coversB (actsF acts) b[m] a[k] with
              | true => exact any_takeT hltm hc
              | false => rw [any_takeF hltm hc]; exact hok
            clear hok
            go_wp2_with (fail)
            refine (refCovers_calls acts b[m] a[k] _ _ _ _ (HU.out _ HBW5.out) HSP.out (HSX.out _ HBW5.out) HN.out H6K.out).mono ?_
            rintro e w6 ⟨rfl, hb6⟩
            have HB6 : Hid (Below W3.heap.size W3 w6) := HB5.out.trans (hb6.mono HB5.out.size)
            clear hb6
            go_wp2
            go_roundw
            case rel => exact ⟨m + 1, _, by omega, by go_num, by rw [HX.out], rfl, HB6.out⟩
            case measure => simp [intOf]; omega
        · obtain rfl : m = b.length := by omega
          rw [List.take_length]
          cases hok : anyBy b fun p => coversB (actsF acts) p a[k] with
          | true =>
            have HOK := Lib.hid hok
            clear hok
            go_wp2
            go_roundw
            case rel =>
              refine ⟨k + 1, _, by have := HLT.out; omega, by go_num, rfl, HBW.out, fun j hj hj' => ?_⟩
              by_cases e : j = k
              · subst e; exact HOK.out
              · exact HM.out j hj (by omega)
            case measure => simp [intOf]; have := HLT.out; omega
          | false =>
            have HX : Hid (flowsB (actsF acts) a b = false) := flows_no HLT.out hok
            clear hok
            go_wp2
            go_ret
            exact ⟨ret_bool HX.out.symm, HBW.out⟩
    · have HX : Hid (flowsB (actsF acts) a b = true) := flows_yes fun j hj => HM.out j hj (by omega)
      go_wp2
      go_ret
      exact ⟨ret_bool HX.out.symm, HB.out⟩

end Go.Proofs.YtcgihpfanfbonaaGreatDoor
