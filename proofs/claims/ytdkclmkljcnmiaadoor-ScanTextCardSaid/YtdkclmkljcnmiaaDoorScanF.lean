/-
  scan.Join.
-/
import Derived.Test.YtdkclmkljcnmiaaDoorScanD
import Derived.Test.YtdkclmkljcnmiaaDoorJoinT
import Derived.Test.YtdkclmkljcnmiaaDoorOwnS
namespace Go.Proofs.YtdkclmkljcnmiaaDoor
open Go.RowKit
set_option linter.unusedVariables false
set_option linter.unusedSimpArgs false

def blankT : Txt := ⟨#[32]⟩
def wideT (x : Tok) : Bool := decide (4000 < x.2.2.size)
def wideL (l : List Tok) : Bool := decide (600 < l.length) || l.any wideT
def textsOf (l : List Tok) : List Txt := l.map fun x => x.2.2
def joinE (l : List Tok) : Int := if wideL l then 2 else 0
def joinS (l : List Tok) : Txt := if wideL l then ByteArray.empty else joinT (textsOf l) blankT
theorem wide_at {l : List Tok} {k : Nat} (hk : k < l.length) (h : wideT l[k] = true) : wideL l = true := by
  unfold wideL; rw [Bool.or_eq_true]; exact .inr (List.any_eq_true.2 ⟨_, List.getElem_mem hk, h⟩)
theorem wide_none {l : List Tok} (h0 : l.length ≤ 600) (h : ∀ j (hj : j < l.length), wideT l[j] = false) : wideL l = false := by
  unfold wideL
  rw [Bool.or_eq_false_iff]
  refine ⟨by simp; omega, ?_⟩
  rw [List.any_eq_false]
  intro y hy
  obtain ⟨j, hj, rfl⟩ := List.getElem_of_mem hy
  rw [h j hj]; simp

set_option maxHeartbeats 1000000 in
set_option maxRecDepth 100000 in
theorem join_tok_calls (l : List Tok) (v : Value) (w : World) (hv : Toks w l v) :
    Calls Tryd.prog 26 #[v] w fun e w' => e = .returned (.tuple #[.string (joinS l), .int .i64 (joinE l)]) ∧ Below w.heap.size w w' := by
  obtain ⟨b, o, c, p, rfl, hlc, hcm, hp, hcells⟩ := hv.cells
  clear hv
  obtain ⟨t0, hi, hz0, hz1, hz2⟩ := info_parts Tryd.info_string
  by_cases h0 : l.length ≤ 600
  · have h0' : (l.length : Int) ≤ 600 := by omega
    have HC := Lib.hid hcells
    have HP := Lib.hid hp
    clear hcells hp
    go_enter Tryd.func26, Tryd.ntmps26
    go_wp2
    go_loopw [4, 6, 12] (fun y _ i wr => ∃ k : Nat, k ≤ l.length ∧ i = .int .i64 k ∧ Below w.heap.size w wr ∧ wr.ownsRow w.heap.size 9 1 y k ((l.take k).map fun x => .string x.2.2) ∧ Hid (∀ j (hj : j < l.length), j < k → wideT l[j] = false)) (fun _ _ i _ => l.length - (intOf i).toNat)
    case atStart => exact ⟨0, Nat.zero_le _, rfl, Below.refl _ _, World.ownsRow_nil _ _ _ _, fun j _ hj => absurd hj (Nat.not_lt_zero _)⟩
    case round =>
      obtain ⟨k, hk, rfl, hb, hown, HN⟩ := hrel
      have HB := Lib.hid hb
      have HO := Lib.hid hown
      clear hb hown
      by_cases hlt : k < l.length
      · obtain ⟨g1, g2, g3⟩ := HC.out k hlt
        obtain rfl := HP.out (by omega)
        have r1 : wr.cell? ⟨b, o + k * 3, none⟩ = some (.int .i64 l[k].1) := (HB.out.cell (cell_lt g1)).trans g1
        have r2 : wr.cell? ⟨b, o + k * 3 + 1, none⟩ = some (.int .i64 l[k].2.1) := (HB.out.cell (cell_lt g2)).trans g2
        have r3 : wr.cell? ⟨b, o + k * 3 + 2, none⟩ = some (.string l[k].2.2) := (HB.out.cell (cell_lt g3)).trans g3
        obtain ⟨W1, eW⟩ : ∃ W1, wr.alloc (.cells #[.int .i64 l[k].1, .int .i64 l[k].2.1, .string l[k].2.2] 31) = W1 := ⟨_, rfl⟩
        obtain ⟨z1, hW1, m1⟩ := boxes1 eW
        have s3 := m1 2
        simp only [List.getElem?_toArray, List.getElem?_cons_zero, List.getElem?_cons_succ] at s3
        have HB1 := Lib.hid (HB.out.trans (hW1.mono HB.out.size))
        have hown1 := own_below HO.out hW1
        have HZ := Lib.hid z1
        clear g1 g2 g3 m1 hW1 z1
        cases hw : wideT l[k] with
        | true =>
          have HX : Hid (joinE l = 2 ∧ joinS l = ByteArray.empty) := by unfold Hid joinE joinS; rw [wide_at hlt hw]; exact ⟨rfl, rfl⟩
          have hw' : 4000 < (l[k].2.2.size : Int) := by unfold wideT at hw; simp at hw; omega
          clear hw hown1
          go_wp2
          go_ret2
          exact ⟨by rw [HX.out.1, HX.out.2]; rfl, HB1.out⟩
        | false =>
          have HWN : Hid (∀ j (hj : j < l.length), j < k + 1 → wideT l[j] = false) := fun j hj h => by
            by_cases e : j = k
            · subst e; exact hw
            · exact HN.out j hj (by omega)
          have hw' : (l[k].2.2.size : Int) ≤ 4000 := by unfold wideT at hw; simp at hw; omega
          have hsz := HB1.out.size
          clear hw
          go_wp2_with (at_builtin; refine wpList_append_own _ rfl _ _ 37 rfl w.heap.size 9 t0 (.string ByteArray.empty) 1 16 Tryd.underlying37 hi hz0 hz1 hz2 rfl (by decide) _ _ _ rfl (hown1.alloc _) ⟨W1.heap.size, 0, none⟩ 1 1 [.string l[k].2.2] rfl rfl ?c1 ?c2 ?c3 ?c4 ?c5 ?_)
          case c2 => first | rfl | (intro u hu; simp at hu; subst hu; rfl)
          case c3 => unfold maxLen; omega
          case c4 => omega
          case c5 => first | omega | (simp; omega)
          · intro v' w6 hown' hgrow _
            go_wp2
            go_roundw
            case rel =>
              refine ⟨k + 1, by omega, by go_num, (HB1.out.alloc HB1.out.size _).grown hgrow (by have := HB1.out.size; simp; omega) (fun q hq => (hown1.lt q hq).1), ?_, HWN⟩
              rw [List.take_succ_eq_append_getElem hlt, List.map_append, List.map_take]
              exact hown'
            case measure => simp [intOf]; omega
      · obtain rfl : k = l.length := by omega
        have hno := wide_none h0 fun j hj => HN.out j hj hj
        have HX : Hid (joinE l = 0 ∧ joinS l = joinT (textsOf l) blankT) := by unfold Hid joinE joinS; rw [hno]; exact ⟨rfl, rfl⟩
        have hO := HO.out
        rw [List.take_length] at hO
        have hS : Strs wr (textsOf l) _ := Strs.of_owns (l := textsOf l) (by unfold textsOf; rw [List.length_map, List.map_map]; exact hO)
        have hn : ∀ s ∈ textsOf l, s.size ≤ 4000 := fun s hs => by
          obtain ⟨x, hx, rfl⟩ := List.mem_map.1 hs
          obtain ⟨j, hj, rfl⟩ := List.getElem_of_mem hx
          have := HN.out j hj hj
          unfold wideT at this
          simp at this
          omega
        have hlen := join_len (textsOf l) blankT 4000 hn
        have e1 : blankT.size = 1 := rfl
        have e2 : (textsOf l).length = l.length := by unfold textsOf; rw [List.length_map]
        have hm : (textsOf l).length * (4000 + blankT.size) ≤ 600 * 4001 := Nat.mul_le_mul (by omega) (by rw [e1]; decide)
        have HJ : Hid (Calls Tryd.prog 39 #[_, .string blankT] wr fun e w' => e = .returned (.string (joinT (textsOf l) blankT)) ∧ Below wr.heap.size wr w') := join_calls (textsOf l) blankT _ wr hS (by omega) (by omega)
        clear hS hO hlen hm hn
        go_wp2_with (fail)
        refine HJ.out.mono ?_
        rintro e w2 ⟨rfl, hb2⟩
        go_wp2
        go_ret2
        exact ⟨by rw [HX.out.1, HX.out.2]; rfl, HB.out.trans (hb2.mono HB.out.size)⟩
  · have h0' : 600 < (l.length : Int) := by omega
    have HX : Hid (joinE l = 2 ∧ joinS l = ByteArray.empty) := by
      have : wideL l = true := by unfold wideL; rw [Bool.or_eq_true]; exact .inl (by simpa using h0)
      unfold Hid joinE joinS; rw [this]; exact ⟨rfl, rfl⟩
    clear hcells hp
    go_enter Tryd.func26, Tryd.ntmps26
    go_wp2
    go_ret2
    exact ⟨by rw [HX.out.1, HX.out.2]; rfl, Below.refl _ _⟩
end Go.Proofs.YtdkclmkljcnmiaaDoor
