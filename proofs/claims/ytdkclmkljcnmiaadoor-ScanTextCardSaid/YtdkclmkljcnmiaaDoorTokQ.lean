/-
  The reference's Tokens finds the program's tokens.
-/
import Derived.Test.YtdkclmkljcnmiaaDoorTokP
import Derived.Test.YtdkclmkljcnmiaaDoorScanE
import Derived.Test.YtdkclmkljcnmiaaDoorRefN
import Derived.RegionTactic
import Derived.ChangeAlike
namespace Go.Proofs.YtdkclmkljcnmiaaDoor
open Go.RowKit
set_option linter.unusedVariables false
set_option linter.unusedSimpArgs false

theorem has_char {s : Txt} {k : Nat} (h : k < s.size) {c : Txt} (hc : s.extract k (k + 1) = c) {L : List UInt8} {P : Txt} (hp : P.data.toList = L) : Lib.contains P.data.toList c.data.toList = L.contains s[k] := by
  have e : c.data.toList = [s[k]] := by
    rw [← hc]
    show bytesOf _ = _
    rw [bytesOf_extract]
    have := rest_cons h
    unfold restOf at this
    rw [this, show k + 1 - k = 1 by omega]
    rfl
  rw [e, hp, contains_mem]
theorem char_is {s : Txt} {k : Nat} (h : k < s.size) {c : Txt} (hc : s.extract k (k + 1) = c) (b : UInt8) : c = ⟨#[b]⟩ ↔ s[k] = b := by
  have e : bytesOf c = [s[k]] := by
    rw [← hc, bytesOf_extract]
    have := rest_cons h
    unfold restOf at this
    rw [this, show k + 1 - k = 1 by omega]
    rfl
  constructor
  · rintro rfl
    have : [b] = [s[k]] := e
    exact (List.cons.inj this).1.symm
  · intro hb
    apply txt_ext
    rw [e, hb]
    rfl

theorem failF_calls (c k : Int) (g : Nat) (w : World) (h : w.cell? ⟨g, 0, none⟩ = some (.int .i64 k)) :
    Calls Tryd.prog 21 #[.int .i64 c, .pointer (some ⟨g, 0, none⟩)] w fun e w' => e = .returned (.tuple #[.slice none 0 0, .agg #[.int .i64 c, .int .i64 k]]) ∧ Below w.heap.size w w' := by
  obtain ⟨W1, eW⟩ : ∃ W1, w.alloc (.cells #[.int .i64 0, .int .i64 0] 25) = W1 := ⟨_, rfl⟩
  obtain ⟨z1, hW, m1⟩ := boxes1 eW
  have y0 := m1 0
  have y1 := m1 1
  simp only [List.getElem?_toArray, List.getElem?_cons_zero, List.getElem?_cons_succ] at y0 y1
  have hff : ∀ j, W1.frozen? ⟨w.heap.size, j, none⟩ = false := fun j => by rw [← eW]; exact World.frozen?_alloc_at _ _ _ _ rfl
  have k1 : W1.cell? ⟨g, 0, none⟩ = some (.int .i64 k) := (hW.cell (cell_lt h)).trans h
  have q0 := hff 0
  have q1 := hff 1
  have HW := Lib.hid hW
  have HY0 := Lib.hid y0
  have HY1 := Lib.hid y1
  clear m1 hW z1 h hff
  go_enter Tryd.func21, Tryd.ntmps21
  go_wp2
  go_region
  all_goals go_wp2
  all_goals refine bodyPost_ret (v := .tuple #[.slice none 0 0, .agg #[.int .i64 c, .int .i64 k]]) ?_ rfl ⟨rfl, ?_⟩
  · obtain ⟨g0, g1⟩ := fault_cells HY0.out HY1.out (.int .i64 c) (.int .i64 k)
    simp [results, Tryd.results21, go_sem, g0, g1]
  · exact ((HW.out.setCell (Nat.le_refl _) _).setCell (Nat.le_refl _) _).drew

theorem trimLeft_calls (r cut : Txt) (w : World) (h2 : 2 ≤ cut.size) (hc : cut.size < 4294967281) (ha : ∀ (j : Nat) b, cut.data.toList[j]? = some b → b.toNat < 128) (h0 : 0 < r.size) {T : Txt} (hT : (⟨(Lib.trimLeftS r.data.toList cut.data.toList).toArray⟩ : Txt) = T) :
    Calls Tryd.prog 24 #[.string r, .string cut] w fun e w' => e = .returned (.string T) ∧ w' = (w.alloc (.cells (Lib.setCells cut.data.toList) 49)).alloc (.cells (Lib.setCells cut.data.toList) 49) := by
  subst hT
  have hz : (Tryd.prog.info? 49).map (fun i => (i.zero, i.size)) = some (some (.agg (Array.replicate 256 (.bool false))), 256) := by kernel_rfl
  exact Any.strings_TrimLeft_set Tryd.lays161 (zero_of_info hz).1 (zero_of_info hz).2 r cut w h2 h0 hc ha

def signsText : Txt := ⟨#[38,38,32,124,124,32,61,61,32,33,61,32,60,61,32,62,61,32,43,32,45,32,42,32,47,32,37,32,60,32,62,32,33,32,40,32,41,32,123,32,125,32,44,32,59,32,58,32,61]⟩
theorem signs_fields : (Lib.fields signsText.data.toList).map (fun l => (⟨l.toArray⟩ : Txt)) = signsL := by decide +kernel
theorem tab_below {w w' : World} {l : List Int} (h : Lib.TabIs Tryd.prog w "strings.asciiSpace" .u8 l) (hb : Below w.heap.size w w') : Lib.TabIs Tryd.prog w' "strings.asciiSpace" .u8 l := by
  have hgn : Tryd.prog.globalNamed "strings.asciiSpace" = some 0 := by kernel_rfl
  unfold Lib.TabIs World.var? at h ⊢
  rw [hgn] at h ⊢
  simp only [Option.bind_some] at h ⊢
  have hlt : 0 < w.heap.size := by
    rcases Nat.lt_or_ge 0 w.heap.size with h' | h'
    · exact h'
    · rw [Array.getElem?_eq_none h'] at h; cases h
  rw [hb.block _ hlt]
  exact h
end Go.Proofs.YtdkclmkljcnmiaaDoor
