/-
  slices.SortFunc over policies by label.compare.
-/
import Derived.Test.YtjjlkckhbhgmoaaPlain
import Derived.Shelf.SlSortCmp.WholeK
namespace Go.Proofs.Ytjjlkckhbhgmoaa
open Go.RowKit Go.Sort Go.Shelf
set_option linter.unusedVariables false
set_option linter.unusedSimpArgs false

/-- A policy and the slice of its readers. -/
abbrev PolS := Pol × Value
def pcells (x : PolS) : List Value := [.string x.1.1, x.2]
/-- Its readers are read so whatever becomes of one block. -/
def Rob (w : World) (M : Option Nat) (x : PolS) : Prop := ∀ W, w.grownBy W M → Strs W x.1.2 x.2
theorem Rob.grown {w w' : World} {M : Option Nat} {x : PolS} (h : Rob w M x) (hg : w.grownBy w' M) : Rob w' M x := fun W hW => h W (grown_grown hg hW)
/-- Also where another block of the call's own takes its place. -/
theorem Rob.fresh {w w' : World} {M : Option Nat} {g : Nat} {x : PolS} (h : Rob w M x) (hg : w.grownBy w' M) (hf : w.heap.size ≤ g) : Rob w' (some g) x := fun W hW =>
  h W ⟨hW.os.trans hg.os, hW.tape.trans hg.tape, hW.output.trans hg.output, Nat.le_trans hg.size hW.size, fun k hk hne => by
    rw [hW.block k (Nat.lt_of_lt_of_le hk hg.size) (fun e => by have := Option.some.inj e; omega), hg.block k hk hne]⟩
theorem Rob.strs {w : World} {M : Option Nat} {x : PolS} (h : Rob w M x) : Strs w x.1.2 x.2 := h w (World.grownBy.refl w _)
/-- A row of policies of the call's own. -/
def PolRow (base : Nat) (w : World) (v : Value) (d : List PolS) : Prop := w.ownsRow base 58 2 v d.length (d.flatMap pcells) ∧ ∀ x ∈ d, Rob w v.ownBlock x

theorem slice_one {w : World} {l : List Txt} {v : Value} (h : Strs w l v) : v.oneCell' = true := by
  obtain ⟨p, c, rfl, _⟩ := h; rfl
theorem pcells_at : ∀ (d : List PolS) (i j : Nat) (hi : i < d.length), j < 2 → (d.flatMap pcells)[i * 2 + j]? = (pcells d[i])[j]?
  | [], i, j, hi, _ => absurd hi (by simp)
  | x :: d, 0, j, _, hj => by
    rw [List.flatMap_cons, List.getElem?_append_left (by simp [pcells]; omega)]; simp
  | x :: d, i + 1, j, hi, hj => by
    rw [List.flatMap_cons, List.getElem?_append_right (by simp [pcells]; omega)]
    have := pcells_at d i j (by simpa using hi) hj
    rw [show (i + 1) * 2 + j - (pcells x).length = i * 2 + j by simp [pcells]; omega]
    simpa using this
theorem pcells_len (d : List PolS) : (d.flatMap pcells).length = d.length * 2 := by
  induction d with
  | nil => rfl
  | cons x d ih => rw [List.flatMap_cons, List.length_append, ih]; simp [pcells]; omega

/-- Policies whose readers are read whatever becomes of the row's block. -/
abbrev PolV (w : World) (M : Option Nat) := { x : PolS // Rob w M x }
instance (w : World) (M : Option Nat) : Inhabited (PolV w M) := ⟨⟨((ByteArray.empty, []), .slice none 0 0), fun W _ => ⟨none, 0, rfl, Nat.zero_le _, by unfold maxLen; omega, .inl rfl⟩⟩⟩
def encV {w : World} {M : Option Nat} (x : PolV w M) : List Value := pcells x.1
def cmpV {w : World} {M : Option Nat} (x y : PolV w M) : Int := cmpPol x.1.1 y.1.1
theorem cmpV_swo {w : World} {M : Option Nat} : SWO (ltOf (cmpV (w := w) (M := M))) where
  irrefl x := by unfold ltOf cmpV; rw [cmpPol_tot.self]; rfl
  trans x y z h1 h2 := by
    unfold ltOf cmpV at *
    simp at *
    exact cmpPol_tot.trans _ _ _ h1 h2
  ntrans x y z h1 h2 := by
    unfold ltOf cmpV at *
    simp at *
    have a1 := cmpPol_tot.anti x.1.1 y.1.1
    have a2 := cmpPol_tot.anti y.1.1 z.1.1
    have a3 := cmpPol_tot.anti x.1.1 z.1.1
    have := cmpPol_tot.le_trans (a := z.1.1) (b := y.1.1) (c := x.1.1) (by omega) (by omega)
    omega
theorem grown_sortWorldK {α : Type} [Inhabited α] (enc : α → List Value) (k : Nat) (w : World) (g off n : Nat) (d : Array α) (os : Array Obj) : w.grownBy (sortWorldK enc k w g off n d os) (some g) := by
  refine ⟨rfl, rfl, rfl, by simp [sortWorldK, putRowK], fun j hj hne => ?_⟩
  unfold sortWorldK putRowK
  rw [heap_grow_old _ _ (by simpa using hj)]
  have : g ≠ j := fun e => hne (by rw [e])
  simp [putRow, mapBlock, Sort.ahead, Array.getElem?_modify, this]
theorem flat_toList {w : World} {M : Option Nat} (A : Array (PolV w M)) : (flatK encV 2 A).toList = (A.toList.map Subtype.val).flatMap pcells := by
  apply List.ext_getElem?
  intro t
  by_cases ht : t < A.size * 2
  · have h1 : (flatK encV 2 A).toList[t]? = some ((encV A[t / 2]!)[t % 2]!) := by
      rw [Array.getElem?_toList, Array.getElem?_eq_getElem (by simpa using ht), ← getElem!_pos _ t (by simpa using ht), get_flatK _ _ _ _ ht]
    have hi : t / 2 < (A.toList.map Subtype.val).length := by simp; omega
    have h2 := pcells_at (A.toList.map Subtype.val) (t / 2) (t % 2) hi (by omega)
    rw [show t / 2 * 2 + t % 2 = t by omega] at h2
    rw [h1, h2]
    have hi' : t / 2 < A.size := by omega
    have e : (A.toList.map Subtype.val)[t / 2] = (A[t / 2]!).1 := by simp [getElem!_pos, hi']
    rw [e]
    show _ = (encV A[t / 2]!)[t % 2]?
    rw [List.getElem?_eq_getElem (by simp [encV, pcells]; omega), getElem!_pos]
  · rw [List.getElem?_eq_none (by simp; omega), List.getElem?_eq_none (by rw [pcells_len]; simp; omega)]
theorem cmpLays (w : World) (g : Nat) (size : Nat) : CmpLays Try.prog 46 #[] (encV (w := w) (M := some g)) 2 cmpV g 0 size w := fun m os dk _ x y => by
  have hW := grown_sortWorldK (encV (w := w) (M := some g)) 2 w g 0 m dk os
  refine (compare_calls x.1.1 y.1.1 x.1.2 y.1.2 _ (x.2 _ hW) (y.2 _ hW)).mono ?_
  rintro e w' ⟨he, os', hw⟩
  exact ⟨he, 0, os', by rw [hw]; rfl⟩
theorem bitlen_convert (n : Nat) (h : n < 4611686018427387904) : IntKind.u64.wrap (n : Int) = n := by simp [IntKind.wrap, IntKind.bits, IntKind.signed]; omega

set_option maxHeartbeats 2000000 in
set_option maxRecDepth 100000 in
theorem sortPol_calls (base : Nat) (v : Value) (d : List PolS) (w : World) (h : PolRow base w v d) (h0 : 0 < d.length) (hsz : d.length < 4611686018427387904) :
    Calls Try.prog 45 #[v, .func (.func 46) #[] #[]] w fun e w' => e = .returned (.tuple #[]) ∧
      ∃ d', d'.Perm d ∧ d'.Pairwise (fun x y => cmpPol x.1 y.1 ≤ 0) ∧ PolRow base w' v d' ∧ w.grownBy w' v.ownBlock := by
  obtain ⟨⟨hl, hown⟩, hrob⟩ := h
  rcases hown with ⟨rfl, hn⟩ | ⟨g, cap, cur, rfl, hbase, hblk, q1, q2, q3, q4⟩
  · omega
  have hM : (Value.slice (some ⟨g, 0, none⟩) d.length cap).ownBlock = some g := rfl
  rw [hM] at hrob ⊢
  have hg : g < w.heap.size := (Array.getElem?_eq_some_iff.1 hblk).1
  obtain ⟨A, hA⟩ : ∃ A : Array (PolV w (some g)), A.toList.map Subtype.val = d := ⟨(d.attach.map fun x => (⟨x.1, hrob x.1 x.2⟩ : PolV w (some g))).toArray, by simp only [List.map_map, Function.comp_def]; exact List.attach_map_subtype_val d⟩
  have hAs : A.size = d.length := by have := congrArg List.length hA; simpa using this
  have hH : HoldsK encV 2 w g 0 A := fun t ht => by
    have ht' : t < d.length * 2 := by rw [← hAs]; simpa using ht
    have e1 : (flatK encV 2 A)[t]? = (d.flatMap pcells)[t]? := by rw [← Array.getElem?_toList, flat_toList, hA]
    have e2 : (flatK encV 2 A)[t]? = some (flatK encV 2 A)[t]! := by rw [getElem!_pos _ t ht, Array.getElem?_eq_getElem ht]
    refine ⟨?_, by simp [World.frozen?, hblk]⟩
    rw [← q4, List.getElem?_take_of_lt ht', Array.getElem?_toList, e2] at e1
    simpa [World.cell?, hblk] using e1.symm
  have eg : ∀ args w, (callFunc 46 args).run Try.prog w = .ok (.enter 46 args) w := enters_at Try.func46 (by kernel_rfl) rfl
  have hlim : Lib.bitLen A.size < 4611686018427387904 := Nat.lt_of_le_of_lt (Lib.bitLen_le A.size 62 (by omega) (by omega)) (by omega)
  have hp := AnyQ.pdqsortCmpFunc_all Try.pdqPol 2 (fun w => Try.isAgg58 w) (fun w => Try.sizeOf58 w) encV cmpV 46 #[] cmpV_swo g 0 cap A w eg (cmpLays w g A.size)
    ⟨fun x => rfl, fun x u hu => by
      have h2 := slice_one x.2.strs
      simp [encV, pcells] at hu
      rcases hu with rfl | rfl
      · rfl
      · exact h2, hH, hg⟩ (A.size + 1) 0 A.size (Lib.bitLen A.size) A w (by omega) rfl (SWK.start hH) (Nat.zero_le _) (Nat.le_refl _) (by omega) hlim (Or.inl rfl)
  change Calls Try.prog 68 _ _ _ at hp
  have hb := Try.bits_Len (A.size : Int) w (by omega) (by omega)
  rw [Int.toNat_natCast] at hb
  have wr := bitlen_convert A.size (by omega)
  rw [hAs] at hp hb wr
  have hsorts := pdq_sorts (ltOf cmpV) cmpV_swo A 0 A.size (Lib.bitLen A.size) true true (Nat.zero_le _) (Nat.le_refl _) (Or.inl rfl)
  rw [hAs] at hsorts
  obtain ⟨S, hS⟩ : ∃ S, pdq (ltOf cmpV) A 0 d.length (Lib.bitLen d.length) true true = S := ⟨_, rfl⟩
  rw [hS] at hp hsorts
  have HP := Lib.hid hp
  have HB := Lib.hid hb
  have HPOST : Hid (∀ w', SWK encV 2 w g 0 S w' → ∃ d', d'.Perm d ∧ d'.Pairwise (fun x y => cmpPol x.1 y.1 ≤ 0) ∧ PolRow base w' (.slice (some ⟨g, 0, none⟩) d.length cap) d' ∧ w.grownBy w' (some g)) := by
    rintro w' ⟨n, os, rfl⟩
    obtain ⟨⟨p1, p2, p3⟩, p4⟩ := hsorts
    have hSs : S.size = d.length := p1.trans hAs
    have hper : (S.toList.map Subtype.val).Perm d := by
      rw [← hA]
      refine List.Perm.map _ ?_
      have e1 : (S.extract 0 d.length).toList = S.toList := by rw [← hSs]; simp
      have e2 : (A.extract 0 d.length).toList = A.toList := by rw [← hAs]; simp
      rw [e1, e2] at p3
      exact p3
    refine ⟨S.toList.map Subtype.val, hper, ?_, ⟨?_, ?_⟩, grown_sortWorldK _ _ _ _ _ _ _ _⟩
    · rw [List.pairwise_iff_getElem]
      intro i j hi hj hij
      have hi' : i < S.size := by simpa using hi
      have hj' : j < S.size := by simpa using hj
      have := p4 i j (Nat.zero_le _) hij (by omega)
      unfold ltOf cmpV at this
      rw [getElem!_pos _ i hi', getElem!_pos _ j hj'] at this
      simp at this
      have ha := cmpPol_tot.anti (S[j]).1.1 (S[i]).1.1
      simp
      omega
    · have hlen : (S.toList.map Subtype.val).length = d.length := by simp [hSs]
      rw [hlen]
      refine ⟨by rw [pcells_len, hlen], .inr ⟨g, cap, putCells id 0 (flatK encV 2 S) cur, rfl, hbase, ?_, q1, q2, by simp [putCells, q3], ?_⟩⟩
      · unfold sortWorldK putRowK
        rw [heap_grow_old _ _ (by simpa using hg)]
        simp [putRow, mapBlock, Sort.ahead, Array.getElem?_modify, hblk, onCells]
      · rw [← flat_toList]
        apply List.ext_getElem?
        intro t
        by_cases ht : t < d.length * 2
        · have ht2 : t < (flatK encV 2 S).size := by rw [size_flatK, hSs]; exact ht
          have ht3 : t < cur.size := by rw [q3]; omega
          rw [List.getElem?_take_of_lt ht, Array.getElem?_toList, Array.getElem?_toList, Array.getElem?_eq_getElem ht2, ← getElem!_pos _ t ht2]
          simp [putCells, ht3]
          intro h; rw [hSs] at h; omega
        · rw [List.getElem?_take_eq_none (by omega), List.getElem?_eq_none (by simp [hSs]; omega)]
    · intro x hx
      obtain ⟨y, hy, rfl⟩ := List.mem_map.1 hx
      exact y.2.grown (grown_sortWorldK _ _ _ _ _ _ _ _)
  have h1' : (d.length : Int) < 4611686018427387904 := by omega
  clear hp hb hsorts hS hH hlim hrob q4 hl hblk q3
  go_enter Try.func45, Try.ntmps45
  go_wp2_with (fail)
  refine HB.out.mono ?_
  rintro e w1 ⟨rfl, rfl⟩
  go_wp2_with (fail)
  refine HP.out.mono ?_
  rintro e w2 ⟨rfl, hsw⟩
  obtain ⟨d', r1, r2, r3, r4⟩ := HPOST.out _ hsw
  go_wp2
  go_end0
  exact ⟨rfl, d', r1, r2, r3, r4⟩
end Go.Proofs.Ytjjlkckhbhgmoaa
