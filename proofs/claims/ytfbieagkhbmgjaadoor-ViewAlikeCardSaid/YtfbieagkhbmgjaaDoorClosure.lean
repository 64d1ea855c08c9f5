/-
  chief.closure: who of all chiefs acts for each, over others too.
-/
import Derived.Test.YtfbieagkhbmgjaaDoorChiefA
import Derived.Test.YtfbieagkhbmgjaaDoorWar
import Derived.Deep.OwnRows
import Derived.Test.YtfbieagkhbmgjaaDoorCalm
namespace Go.Proofs.YtfbieagkhbmgjaaDoor
open Go.RowKit
set_option linter.unusedVariables false
set_option linter.unusedSimpArgs false

theorem info_bool : (Tryd.prog.info? 4).map (fun i => (i.zero, i.size, i.bytes)) = some (some (.bool false), 1, 1) := by kernel_rfl
theorem info_bools : (Tryd.prog.info? 79).map (fun i => (i.zero, i.size, i.bytes)) = some (some (.slice none 0 0), 1, 24) := by kernel_rfl

/-- The upper row, when `k` rows are made. -/
def matTop (N n k : Nat) : Nat → Value := fun j => if j < k then .slice (some ⟨N + 1 + j, 0, none⟩) n n else .slice none 0 0
/-- A square of truth values in memory that a call has made: `k` rows of it are there. -/
structure Mat (w : World) (N n k : Nat) (X : Nat → Nat → Bool) : Prop where
  size : N + 1 + k ≤ w.heap.size
  top : w.rowIs N 79 n (matTop N n k)
  rows : ∀ j, j < k → w.rowIs (N + 1 + j) 4 n (fun c => .bool (X j c))

theorem Mat.congr {w : World} {N n k : Nat} {X Y : Nat → Nat → Bool} (h : Mat w N n k X) (hXY : ∀ i j, i < k → j < n → X i j = Y i j) : Mat w N n k Y :=
  ⟨h.size, h.top, fun j hj => (h.rows j hj).congr (fun c hc => by rw [hXY j c hj hc])⟩
theorem Mat.alloc {w : World} {N n k : Nat} {X : Nat → Nat → Bool} (h : Mat w N n k X) (o : Obj) : Mat (w.alloc o) N n k X :=
  ⟨by have := h.size; simp; omega, h.top.alloc o, fun j hj => (h.rows j hj).alloc o⟩
theorem Mat.drew {w : World} {N n k : Nat} {X : Nat → Nat → Bool} (h : Mat w N n k X) : Mat w.drew N n k X :=
  ⟨h.size, h.top.drew, fun j hj => (h.rows j hj).drew⟩
theorem Mat.start (w : World) (n : Nat) (X : Nat → Nat → Bool) : Mat (w.alloc (.cells (madeCells #[.slice none 0 0] n) 79)) w.heap.size n 0 X :=
  ⟨by simp, (World.rowIs_made w _ n _).congr (fun j _ => by simp [matTop]), fun j hj => absurd hj (Nat.not_lt_zero _)⟩
def setAt (X : Nat → Nat → Bool) (i j : Nat) (b : Bool) : Nat → Nat → Bool := fun a c => if a = i ∧ c = j then b else X a c
theorem Mat.set {w : World} {N n k : Nat} {X : Nat → Nat → Bool} (h : Mat w N n k X) {i j : Nat} (hi : i < k) (hj : j < n) (b : Bool) : Mat (w.setCell ⟨N + 1 + i, j, none⟩ (.bool b)) N n k (setAt X i j b) := by
  refine ⟨by have := h.size; simpa [World.setCell] using this, h.top.setOther (by show N ≠ N + 1 + i; omega) _, fun r hr => ?_⟩
  by_cases e : r = i
  · subst e
    refine ((h.rows r hr).set j _).congr (fun c hc => ?_)
    by_cases e2 : c = j
    · subst e2; simp [setAt]
    · simp [setAt, e2]
  · refine ((h.rows r hr).setOther (by show N + 1 + r ≠ N + 1 + i; omega) _).congr (fun c hc => ?_)
    simp [setAt, e]
theorem Mat.row {w : World} {N n : Nat} {X : Nat → Nat → Bool} (h : Mat w N n n X) {i : Nat} (hi : i < n) : w.cell? ⟨N, i, none⟩ = some (.slice (some ⟨N + 1 + i, 0, none⟩) n n) := by
  have := h.top.cell hi
  rw [this, matTop, if_pos hi]
theorem Mat.cell {w : World} {N n : Nat} {X : Nat → Nat → Bool} (h : Mat w N n n X) {i j : Nat} (hi : i < n) (hj : j < n) : w.cell? ⟨N + 1 + i, j, none⟩ = some (.bool (X i j)) := (h.rows i hi).cell hj
theorem Mat.free {w : World} {N n : Nat} {X : Nat → Nat → Bool} (h : Mat w N n n X) {i j : Nat} (hi : i < n) : w.frozen? ⟨N + 1 + i, j, none⟩ = false := (h.rows i hi).frozen j

/-- Row `k` is made, and filled but for its own place. -/
theorem Mat.newRow {w : World} {N n k : Nat} (h : Mat w N n k (fun i j => i == j)) (hs : w.heap.size = N + 1 + k) (hk : k < n) :
    Mat (((w.alloc (.cells (madeCells #[.bool false] n) 4)).setCell ⟨N, k, none⟩ (.slice (some ⟨w.heap.size, 0, none⟩) n n)).setCell ⟨w.heap.size, k, none⟩ (.bool true)) N n (k + 1) (fun i j => i == j) := by
  have hnew := World.rowIs_made w (.bool false) n 4
  rw [hs] at hnew ⊢
  refine ⟨by simp [World.setCell, hs]; omega, ((((h.top.alloc _).set k _)).setOther (by show N ≠ N + 1 + k; omega) _).congr (fun j _ => ?_), fun j hj => ?_⟩
  · simp only [matTop]
    by_cases e : j = k
    · subst e; simp
    · rw [if_neg e]
      by_cases hlt : j < k
      · rw [if_pos hlt, if_pos (by omega)]
      · rw [if_neg hlt, if_neg (by omega)]
  · by_cases e : j = k
    · subst e
      refine ((hnew.setOther (by show N + 1 + j ≠ N; omega) _).set j _).congr (fun c hc => ?_)
      by_cases e : c = j
      · subst e; simp
      · have : (j == c) = false := by simp; omega
        simp [e, this]
    · exact (((h.rows j (by omega)).alloc _).setOther (by show N + 1 + j ≠ N; omega) _).setOther (by show N + 1 + j ≠ N + 1 + k; omega) _

/-- Each for itself, and by the first pairs. -/
def edgeM (l : List Txt) (acts : List (Txt × Txt)) (i j : Nat) : Bool := i == j || acts.any fun a => idxOf l a.1 == (i : Int) && idxOf l a.2 == (j : Int)
/-- Who acts for whom, by their numbers. -/
def closM (l : List Txt) (acts : List (Txt × Txt)) : Nat → Nat → Bool := war (edgeM l acts) l.length
theorem idxOf_has {l : List Txt} {x : Txt} (h : has l x = true) : ∃ i : Nat, idxOf l x = i ∧ i < l.length ∧ l[i]? = some x := by
  have hm := idxOf_mem l x
  rw [show l.contains x = true from h] at hm
  unfold idxOf at hm ⊢
  cases e : l.idxOf? x with
  | none => rw [e] at hm; simp at hm
  | some i =>
    rw [List.idxOf?, List.findIdx?_eq_some_iff_getElem] at e
    obtain ⟨hi, he, _⟩ := e
    exact ⟨i, rfl, hi, by rw [List.getElem?_eq_getElem hi]; simpa using he⟩
theorem edgeM_snoc (l : List Txt) (acts : List (Txt × Txt)) {k : Nat} (hk : k < acts.length) {i j : Nat} (hi : idxOf l acts[k].1 = i) (hj : idxOf l acts[k].2 = j) (a c : Nat) :
    setAt (edgeM l (acts.take k)) i j true a c = edgeM l (acts.take (k + 1)) a c := by
  unfold setAt edgeM
  rw [List.take_succ_eq_append_getElem hk]
  simp only [List.any_append, List.any_cons, List.any_nil, hi, hj, Bool.or_false]
  by_cases e : a = i ∧ c = j
  · obtain ⟨rfl, rfl⟩ := e; simp
  · rw [if_neg e]
    have : ((i : Int) == (a : Int) && (j : Int) == (c : Int)) = false := by
      rw [Bool.and_eq_false_iff]
      by_cases h1 : a = i
      · right; simp; omega
      · left; simp; omega
    rw [this]; simp

/-- In the midst of a round over the middle `k`. -/
def warMid (m : Nat → Nat → Bool) (k i j a c : Nat) : Bool := if a < i ∨ (a = i ∧ c < j) then warRound m k a c else m a c
theorem warMid_start (m : Nat → Nat → Bool) (k a c : Nat) : warMid m k 0 0 a c = m a c := by simp [warMid]
theorem warMid_row (m : Nat → Nat → Bool) (k i n : Nat) {a c : Nat} (hc : c < n) : warMid m k i n a c = warMid m k (i + 1) 0 a c := by
  simp only [warMid]
  by_cases h : a < i ∨ (a = i ∧ c < n)
  · rw [if_pos h, if_pos (by omega)]
  · rw [if_neg h, if_neg (by omega)]
theorem warMid_end (m : Nat → Nat → Bool) (k n : Nat) {a c : Nat} (ha : a < n) : warMid m k n 0 a c = warRound m k a c := by
  simp only [warMid]; rw [if_pos (by omega)]
/-- What is read in the midst of a round is what stood at its start. -/
theorem warMid_ij (m : Nat → Nat → Bool) (k i j : Nat) : warMid m k i j i j = m i j := by simp [warMid]
theorem warMid_ik (m : Nat → Nat → Bool) (k i j : Nat) (hr : m k k = true) : warMid m k i j i k = m i k := by
  simp only [warMid]; split
  · exact warRound_col m k i hr
  · rfl
theorem warMid_kj (m : Nat → Nat → Bool) (k i j : Nat) (hr : m k k = true) : warMid m k i j k j = m k j := by
  simp only [warMid]; split
  · exact warRound_row m k j hr
  · rfl
theorem warMid_set (m : Nat → Nat → Bool) (k i j : Nat) (a c : Nat) : setAt (warMid m k i j) i j (warRound m k i j) a c = warMid m k i (j + 1) a c := by
  simp only [setAt, warMid]
  by_cases e : a = i ∧ c = j
  · obtain ⟨rfl, rfl⟩ := e
    simp
  · rw [if_neg e]
    by_cases h : a < i ∨ (a = i ∧ c < j)
    · rw [if_pos h, if_pos (by omega)]
    · rw [if_neg h, if_neg (by omega)]

set_option maxHeartbeats 1000000 in
set_option maxRecDepth 100000 in
theorem closure_calls (l : List Txt) (acts : List (Txt × Txt)) (v u : Value) (w : World) (hv : Strs w l v) (hu : Prs w acts u) (h1 : l.length ≤ 6) (h2 : acts.length ≤ 10) (ha : ∀ j (hj : j < acts.length), actOk l acts[j] = true) :
    Calls Tryd.prog 40 #[v, u] w fun e w' => e = .returned (.slice (some ⟨w.heap.size, 0, none⟩) l.length l.length) ∧ Mat w' w.heap.size l.length l.length (closM l acts) ∧ Below w.heap.size w w' := by
  have hv0 := hv
  obtain ⟨b, o, c, p, rfl, hlc, hc, hp, hcells⟩ := hv.cells
  obtain ⟨b2, o2, c2, p2, rfl, hlc2, hc2, hp2, hcells2⟩ := hu.cells
  clear hv hu
  have hmk1 := run_make_row' (P := Tryd.prog) 77 79 (.slice none 0 0) 24 Tryd.underlying77 info_bools rfl .i64 .i64 l.length (by omega) (by omega)
  have hmk2 := run_make_row' (P := Tryd.prog) 79 4 (.bool false) 1 Tryd.underlying79 info_bool rfl .i64 .i64 l.length (by omega) (by omega)
  go_enter Tryd.func40, Tryd.ntmps40
  go_wp2
  go_loopw [6, 17] (fun _ i wr => ∃ k : Nat, k ≤ l.length ∧ i = .int .i64 k ∧ Below w.heap.size w wr ∧ wr.heap.size = w.heap.size + 1 + k ∧ Mat wr w.heap.size l.length k (fun i j => i == j)) (fun _ i _ => l.length - (intOf i).toNat)
  case atStart => exact ⟨0, Nat.zero_le _, rfl, (Below.refl _ _).alloc (Nat.le_refl _) _, by simp, Mat.start w l.length _⟩
  case round =>
    obtain ⟨k, hk, rfl, hb, hs, hM⟩ := hrel
    have HS := Lib.hid hs
    clear hs
    by_cases hlt : k < l.length
    · have hst1 : ∀ o, (wr.alloc o).cell? ⟨w.heap.size, k, none⟩ = some (matTop w.heap.size l.length k k) := fun o => (hM.top.alloc o).cell hlt
      have hst2 : ∀ o, (wr.alloc o).frozen? ⟨w.heap.size, k, none⟩ = false := fun o => (hM.top.alloc o).frozen k
      have hst3 : ∀ v, ((wr.alloc (.cells (madeCells #[.bool false] l.length) 4)).setCell ⟨w.heap.size, k, none⟩ v).cell? ⟨wr.heap.size, k, none⟩ = some (.bool false) := fun v => by
        have := HS.out
        rw [World.cell?_setCell_other _ _ _ _ (fun e => by have := congrArg Addr.block e; simp at this; omega), World.cell?_alloc_mark]
        simp [madeCells, hlt, Nat.mod_one]
      have hst4 : ∀ v, ((wr.alloc (.cells (madeCells #[.bool false] l.length) 4)).setCell ⟨w.heap.size, k, none⟩ v).frozen? ⟨wr.heap.size, k, none⟩ = false := fun v => by
        rw [World.frozen?_setCell]
        exact (World.rowIs_made wr (.bool false) l.length 4).frozen k
      clear hp hp2 hcells hcells2
      go_wp2
      go_roundw
      case rel =>
        refine ⟨k + 1, by omega, by go_num, ?_, ?_, ?_⟩
        · exact ((hb.alloc hb.size _).setCell (Nat.le_refl _) _).setCell (by have := HS.out; show w.heap.size ≤ wr.heap.size; omega) _
        · simp [World.setCell, HS.out]; omega
        · exact Mat.newRow hM HS.out hlt
      case measure => simp [intOf]; omega
    · obtain rfl : k = l.length := by omega
      clear hmk1 hmk2 hp hcells
      have HA := Lib.hid ha
      clear ha
      have hM0 : Mat wr w.heap.size l.length l.length (edgeM l (acts.take 0)) := hM.congr (fun i j _ _ => by simp [edgeM])
      go_wp2
      go_loopw [8, 35] (fun _ i wr => ∃ k : Nat, k ≤ acts.length ∧ i = .int .i64 k ∧ Below w.heap.size w wr ∧ Mat wr w.heap.size l.length l.length (edgeM l (acts.take k))) (fun _ i _ => acts.length - (intOf i).toNat)
      case atStart => exact ⟨0, Nat.zero_le _, rfl, hb, hM0⟩
      case round =>
        clear hb hM hM0 HS
        obtain ⟨k, hk, rfl, hb, hM⟩ := hrel
        by_cases hlt : k < acts.length
        · have hact := HA.out k hlt
          unfold actOk at hact
          rw [Bool.and_eq_true] at hact
          obtain ⟨i1, e1, g1, _⟩ := idxOf_has hact.1
          obtain ⟨i2, e2, g2, _⟩ := idxOf_has hact.2
          obtain ⟨hc1, hc2'⟩ := hcells2 k hlt
          have hcell1 : wr.cell? ⟨b2, o2 + k * 2, none⟩ = some (.string acts[k].1) := (hb.cell (cell_lt hc1)).trans hc1
          have hcell2 : wr.cell? ⟨b2, o2 + k * 2 + 1, none⟩ = some (.string acts[k].2) := (hb.cell (cell_lt hc2')).trans hc2'
          have HX : Hid (∀ a c, setAt (edgeM l (acts.take k)) i1 i2 true a c = edgeM l (acts.take (k + 1)) a c) := edgeM_snoc l acts hlt e1 e2
          have hI1 : ∀ w', Below w.heap.size w w' → Calls Tryd.prog 43 #[.slice p l.length c, .string acts[k].1] w' fun e w'' => e = .returned (.int .i64 i1) ∧ w'' = w' := fun w' hb' => by
            rw [← e1]; exact (index_calls l _ _ _ (hv0.stays (keeps_of_below hb'))).mono fun _ _ h => ⟨h.1, h.2.symm⟩
          have hI2 : ∀ w', Below w.heap.size w w' → Calls Tryd.prog 43 #[.slice p l.length c, .string acts[k].2] w' fun e w'' => e = .returned (.int .i64 i2) ∧ w'' = w' := fun w' hb' => by
            rw [← e2]; exact (index_calls l _ _ _ (hv0.stays (keeps_of_below hb'))).mono fun _ _ h => ⟨h.1, h.2.symm⟩
          have HI1 := Lib.hid hI1
          have HI2 := Lib.hid hI2
          obtain rfl := hp2 (by omega)
          clear hp2 hcells2 hc1 hc2' hact hI1 hI2 e1 e2
          have e61 : ∀ args w, (callFunc 43 args).run Tryd.prog w = .ok (.enter 43 args) w := enters_at Tryd.func43 (by kernel_rfl) rfl
          go_wp2
          have hM2 := (hM.alloc (.cells #[.string acts[k].1, .string acts[k].2] 33)).drew
          have hb2 := (hb.alloc hb.size (.cells #[.string acts[k].1, .string acts[k].2] 33)).drew
          have hx0 : (wr.alloc (.cells #[.string acts[k].1, .string acts[k].2] 33)).drew.cell? ⟨wr.heap.size, 0, none⟩ = some (.string acts[k].1) := World.cell?_alloc_mark _ _ _ _ _
          have hx1 : (wr.alloc (.cells #[.string acts[k].1, .string acts[k].2] 33)).drew.cell? ⟨wr.heap.size, 1, none⟩ = some (.string acts[k].2) := World.cell?_alloc_mark _ _ _ _ _
          refine wp_region_still_tail 12 (by kernel_rfl) (by kernel_rfl) ?_
          change wpStill _ _ (wr.alloc (.cells #[.string acts[k].1, .string acts[k].2] 33)).drew (fun a' => wpList _ _ _ _ a' (wr.alloc (.cells #[.string acts[k].1, .string acts[k].2] 33)).drew) _ _
          generalize (wr.alloc (.cells #[.string acts[k].1, .string acts[k].2] 33)).drew = W2 at *
          simp only [List.take_succ_cons, List.take_zero, List.drop_succ_cons, List.drop_zero]
          have hr1 := hM2.row g1
          have hfr := hM2.free (j := i2) g1
          have hce := hM2.cell g1 g2
          have hC1 := HI1.out _ hb2
          have hC2 := HI2.out _ hb2
          clear hcell1 hcell2
          repeat still_step
          still_call hC1
          repeat still_step
          still_call hC2
          repeat still_step
          refine wpStill_nil ?_
          go_wp2
          go_roundw
          case rel =>
            refine ⟨k + 1, by omega, by go_num, hb2.setCell (by show w.heap.size ≤ w.heap.size + 1 + i1; omega) _, ?_⟩
            exact (hM2.set g1 g2 true).congr fun a c _ _ => HX.out a c
          case measure => simp [intOf]; omega
        · obtain rfl : k = acts.length := by omega
          rw [List.take_length] at hM
          clear hp2 hcells2 HA
          have hM0 : Mat wr w.heap.size l.length l.length (war (edgeM l acts) 0) := hM
          go_wp2
          go_loopw [9, 10, 11, 54, 59, 64] (fun _ _ _ i _ _ wr => ∃ k : Nat, k ≤ l.length ∧ i = .int .i64 k ∧ Below w.heap.size w wr ∧ Mat wr w.heap.size l.length l.length (war (edgeM l acts) k)) (fun _ _ _ i _ _ _ => l.length - (intOf i).toNat)
          case atStart => exact ⟨0, Nat.zero_le _, rfl, hb, hM0⟩
          case round =>
            clear hb hM hM0
            obtain ⟨k, hk, rfl, hb, hM⟩ := hrel
            by_cases hlt : k < l.length
            · have hM1 : Mat wr w.heap.size l.length l.length (warMid (war (edgeM l acts) k) k 0 0) := hM.congr fun a c _ _ => (warMid_start _ k a c).symm
              have HR : Hid (war (edgeM l acts) k k k = true) := war_refl _ (fun i => by simp [edgeM]) k k
              go_wp2
              go_loopw [10, 11, 59, 64] (fun _ _ i _ wr => ∃ i' : Nat, i' ≤ l.length ∧ i = .int .i64 i' ∧ Below w.heap.size w wr ∧ Mat wr w.heap.size l.length l.length (warMid (war (edgeM l acts) k) k i' 0)) (fun _ _ i _ _ => l.length - (intOf i).toNat)
              case atStart => exact ⟨0, Nat.zero_le _, rfl, hb, hM1⟩
              case round =>
                clear hb hM hM1
                obtain ⟨i, hi, rfl, hb, hM⟩ := hrel
                by_cases hlti : i < l.length
                · go_wp2
                  go_loopw [11, 64] (fun _ j wr => ∃ j' : Nat, j' ≤ l.length ∧ j = .int .i64 j' ∧ Below w.heap.size w wr ∧ Mat wr w.heap.size l.length l.length (warMid (war (edgeM l acts) k) k i j')) (fun _ j _ => l.length - (intOf j).toNat)
                  case atStart => exact ⟨0, Nat.zero_le _, rfl, hb, hM⟩
                  case round =>
                    clear hb hM
                    obtain ⟨j, hj, rfl, hb, hM⟩ := hrel
                    by_cases hltj : j < l.length
                    · go_wp2
                      have hM2 := hM.drew
                      have hb2 := hb.drew
                      have r1 := hM2.row hlti
                      have r2 := hM2.row hlt
                      have c1 := hM2.cell hlti hltj
                      have c2 := hM2.cell hlti hlt
                      have c3 := hM2.cell hlt hltj
                      have f1 := hM2.free (j := j) hlti
                      rw [warMid_ij] at c1
                      rw [warMid_ik _ _ _ _ HR.out] at c2
                      rw [warMid_kj _ _ _ _ HR.out] at c3
                      cases hij : war (edgeM l acts) k i j with
                      | true =>
                        have HV : Hid (warRound (war (edgeM l acts) k) k i j = true) := by show warRound (war (edgeM l acts) k) k i j = true; unfold warRound; rw [hij]; rfl
                        rw [hij] at c1
                        clear hij c2 c3 hb hM
                        refine wp_region_calm_tail 31 (by kernel_rfl) (by kernel_rfl) ?_
                        generalize wr.drew = W2 at *
                        simp only [List.take_succ_cons, List.take_zero, List.drop_succ_cons, List.drop_zero]
                        repeat go_big_quiet_step (fail)
                        refine wpQuiet_nil ?_
                        go_wp2
                        go_roundw
                        case rel =>
                          refine ⟨j + 1, by omega, by go_num, hb2.setCell (by show w.heap.size ≤ w.heap.size + 1 + i; omega) _, ?_⟩
                          exact (hM2.set hlti hltj true).congr fun a c _ _ => by rw [← HV.out]; exact warMid_set _ k i j a c
                        case measure => simp [intOf]; omega
                      | false =>
                        rw [hij] at c1
                        cases hik : war (edgeM l acts) k i k with
                        | true =>
                          rw [hik] at c2
                          cases hkj : war (edgeM l acts) k k j with
                          | true =>
                            rw [hkj] at c3
                            have HV : Hid (warRound (war (edgeM l acts) k) k i j = true) := by show warRound (war (edgeM l acts) k) k i j = true; unfold warRound; rw [hij, hik, hkj]; rfl
                            clear hij hik hkj hb hM
                            refine wp_region_calm_tail 31 (by kernel_rfl) (by kernel_rfl) ?_
                            generalize wr.drew = W2 at *
                            simp only [List.take_succ_cons, List.take_zero, List.drop_succ_cons, List.drop_zero]
                            repeat go_big_quiet_step (fail)
                            refine wpQuiet_nil ?_
                            go_wp2
                            go_roundw
                            case rel =>
                              refine ⟨j + 1, by omega, by go_num, hb2.setCell (by show w.heap.size ≤ w.heap.size + 1 + i; omega) _, ?_⟩
                              exact (hM2.set hlti hltj true).congr fun a c _ _ => by rw [← HV.out]; exact warMid_set _ k i j a c
                            case measure => simp [intOf]; omega
                          | false =>
                            rw [hkj] at c3
                            have HV : Hid (warRound (war (edgeM l acts) k) k i j = false) := by show warRound (war (edgeM l acts) k) k i j = false; unfold warRound; rw [hij, hik, hkj]; rfl
                            clear hij hik hkj hb hM
                            refine wp_region_calm_tail 31 (by kernel_rfl) (by kernel_rfl) ?_
                            generalize wr.drew = W2 at *
                            simp only [List.take_succ_cons, List.take_zero, List.drop_succ_cons, List.drop_zero]
                            repeat go_big_quiet_step (fail)
                            refine wpQuiet_nil ?_
                            go_wp2
                            go_roundw
                            case rel =>
                              refine ⟨j + 1, by omega, by go_num, hb2.setCell (by show w.heap.size ≤ w.heap.size + 1 + i; omega) _, ?_⟩
                              exact (hM2.set hlti hltj false).congr fun a c _ _ => by rw [← HV.out]; exact warMid_set _ k i j a c
                            case measure => simp [intOf]; omega
                        | false =>
                          rw [hik] at c2
                          have HV : Hid (warRound (war (edgeM l acts) k) k i j = false) := by show warRound (war (edgeM l acts) k) k i j = false; unfold warRound; rw [hij, hik]; rfl
                          clear hij hik c3 hb hM
                          refine wp_region_calm_tail 31 (by kernel_rfl) (by kernel_rfl) ?_
                          generalize wr.drew = W2 at *
                          simp only [List.take_succ_cons, List.take_zero, List.drop_succ_cons, List.drop_zero]
                          repeat go_big_quiet_step (fail)
                          refine wpQuiet_nil ?_
                          go_wp2
                          go_roundw
                          case rel =>
                            refine ⟨j + 1, by omega, by go_num, hb2.setCell (by show w.heap.size ≤ w.heap.size + 1 + i; omega) _, ?_⟩
                            exact (hM2.set hlti hltj false).congr fun a c _ _ => by rw [← HV.out]; exact warMid_set _ k i j a c
                          case measure => simp [intOf]; omega
                    · obtain rfl : j = l.length := by omega
                      go_wp2
                      go_roundw
                      case rel => exact ⟨i + 1, by omega, by go_num, hb, hM.congr fun a c _ hc => warMid_row _ k i l.length hc⟩
                      case measure => simp [intOf]; omega
                · obtain rfl : i = l.length := by omega
                  go_wp2
                  go_roundw
                  case rel => exact ⟨k + 1, by omega, by go_num, hb, hM.congr fun a c ha _ => warMid_end _ k l.length ha⟩
                  case measure => simp [intOf]; omega
            · obtain rfl : k = l.length := by omega
              go_wp2
              go_ret
              exact ⟨rfl, hM, hb⟩
end Go.Proofs.YtfbieagkhbmgjaaDoor
