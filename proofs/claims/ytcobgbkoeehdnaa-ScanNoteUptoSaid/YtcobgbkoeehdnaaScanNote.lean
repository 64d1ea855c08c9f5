/-
  cloisterlaw.ScanNote: with a note behind it a text has the same tokens: the call returns true.
-/
import Derived.Test.YtcobgbkoeehdnaaScanN
import Derived.Test.YtcobgbkoeehdnaaScanG
import Derived.Lib.IndexAny
namespace Go.Proofs.Ytcobgbkoeehdnaa
open Go.RowKit
set_option linter.unusedVariables false
set_option linter.unusedSimpArgs false

theorem no_newline {note : Txt} (h : decide (0 ≤ Lib.indexByte note.data.toList 10) = false) : ∀ b ∈ bytesOf note, noteB b.toNat = true := by
  rw [← Lib.contains_iff_indexByte] at h
  intro b hb
  unfold noteB
  have hne : b ≠ 10 := fun e => by
    subst e
    have : (bytesOf note).contains 10 = true := by simpa using hb
    unfold bytesOf at this
    rw [this] at h
    cases h
  rw [bne_iff_ne]
  intro e
  apply hne
  have : b.toNat = 10 := by exact_mod_cast e
  exact UInt8.toNat_inj.1 this

theorem scanGo_zero {s : Txt} : ∀ (f a : Nat) (l L : List Tok) (q : Int), scanGo s f a l = (L, 0, q) → q = 0 := by
  intro f
  induction f with
  | zero =>
    intro a l L q h
    have e : (l, (0 : Int), (0 : Int)) = (L, 0, q) := h
    exact (congrArg (fun x : List Tok × Int × Int => x.2.2) e).symm
  | succ f ih =>
    intro a l L q h
    by_cases hlt : a < s.size
    · have hfit := step_fits hlt
      cases hs : stepOf s a (s[a].toNat) with
      | skip n => rw [scanGo_skip hlt hs] at h; exact ih _ _ _ _ h
      | bad c =>
        rw [hs] at hfit
        rw [scanGo_bad hlt hs] at h
        have e : c = 0 := congrArg (fun x : List Tok × Int × Int => x.2.1) h
        exact absurd e hfit
      | tok k t =>
        by_cases hm : l.length = 600
        · rw [scanGo_many hlt hs hm] at h
          have e : (2 : Int) = 0 := congrArg (fun x : List Tok × Int × Int => x.2.1) h
          exact absurd e (by decide)
        · rw [scanGo_tok hlt hs hm] at h; exact ih _ _ _ _ h
    · rw [scanGo_end hlt] at h
      exact (congrArg (fun x : List Tok × Int × Int => x.2.2) h).symm
theorem scanOf_zero {s : Txt} {L : List Tok} {q : Int} (h : scanOf s = (L, 0, q)) : q = 0 := by
  unfold scanOf at h
  split at h
  · have e : (2 : Int) = 0 := congrArg (fun x : List Tok × Int × Int => x.2.1) h
    exact absurd e (by decide)
  · exact scanGo_zero _ _ _ _ _ h

set_option maxHeartbeats 1000000 in
set_option maxRecDepth 100000 in
theorem scanNote_calls (s note : Txt) (w : World) (hs : s.size ≤ 1048576) (hn : note.size ≤ 1048576) :
    Calls Try.prog 8 #[.string s, .string note] w fun e w' => e = .returned (.bool true) ∧ Below w.heap.size w w' := by
  go_enter Try.func8, Try.ntmps8
  go_wp2_with (fail)
  refine (scan_calls s _).mono ?_
  rintro e w1 ⟨y, rfl, hy, hb1⟩
  obtain ⟨L, c, a, hr⟩ : ∃ L c a, scanOf s = (L, c, a) := ⟨_, _, _, rfl⟩
  rw [hr] at hy ⊢
  have HY := Lib.hid hy
  obtain ⟨b, o, cp, p, rfl, _⟩ := hy.cells
  have HB1 := Lib.hid hb1
  have HR := Lib.hid hr
  clear hy hb1 hr
  obtain ⟨W2, eW2⟩ : ∃ W2, w1.alloc (.cells #[.int .i64 c, .int .i64 a] 31) = W2 := ⟨_, rfl⟩
  obtain ⟨z2, hW2, m2⟩ := boxes1 eW2
  have f0 := m2 0
  have f1 := m2 1
  simp only [List.getElem?_toArray, List.getElem?_cons_zero, List.getElem?_cons_succ] at f0 f1
  have F1 := Lib.hid f1
  have FJ : Hid (∀ j, W2.cell? ⟨w1.heap.size, 2 + j, none⟩ = none) := fun j => (m2 (2 + j)).trans (by rw [Array.getElem?_eq_none]; simp)
  have FZ : Hid (∀ j, W2.frozen? ⟨w1.heap.size, j, none⟩ = false) := fun j => by rw [← eW2]; exact World.frozen?_alloc_at _ _ _ _ rfl
  clear f1
  have HW2 := Lib.hid hW2
  clear m2 hW2 z2
  go_wp2_with (fail)
  refine (scanned_calls _).mono ?_
  rintro e w3 ⟨rfl, hb3⟩
  have f3 : w3.cell? ⟨w1.heap.size, 0, none⟩ = some (.int .i64 c) := (hb3.cell (cell_lt f0)).trans f0
  have HB23 := Lib.hid hb3
  have hlt2 : Hid (w1.heap.size < W2.heap.size) := cell_lt f0
  have HB13 : Hid (Below w1.heap.size w1 w3) := HW2.out.trans (hb3.mono HW2.out.size)
  have HB03 : Hid (Below w.heap.size w w3) := HB1.out.trans (HB13.out.mono HB1.out.size)
  clear hb3 f0
  by_cases hc : c = 0
  · subst hc
    cases hnl : decide (0 ≤ Lib.indexByte note.data.toList 10) with
    | true =>
      go_wp2_with (fail)
      refine (Try.strings_Contains_one note 10 _).mono ?_
      rintro e w4 ⟨rfl, rfl⟩
      rw [hnl]
      clear hnl
      go_wp2_with (fail)
      refine (scanned_calls _).mono ?_
      rintro e w5 ⟨rfl, hb5⟩
      go_wp2
      go_ret
      exact ⟨rfl, HB03.out.trans (hb5.mono HB03.out.size)⟩
    | false =>
      have HNL := Lib.hid (no_newline hnl)
      go_wp2_with (fail)
      refine (Try.strings_Contains_one note 10 _).mono ?_
      rintro e w4 ⟨rfl, rfl⟩
      rw [hnl]
      clear hnl
      by_cases hz : s.size + note.size + 2 ≤ 4000
      · have hz1 : (s.size : Int) + note.size + 2 ≤ 4000 := by omega
        obtain rfl := scanOf_zero HR.out
        have HR2 : Hid (scanOf (noted s note) = (L, 0, 0)) := note_law HNL.out hz HR.out
        have e2 : (⟨#[32, 35]⟩ : ByteArray).size = 2 := rfl
        have hsz : (s ++ (⟨#[32, 35]⟩ : ByteArray)).size = s.size + 2 := by rw [ByteArray.size_append]; rfl
        go_wp2_with (fail)
        refine (scan_calls (noted s note) _).mono ?_
        rintro e w6 ⟨y2, rfl, hy2, hb6⟩
        rw [HR2.out] at hy2 ⊢
        have HY2 := Lib.hid hy2
        obtain ⟨b2, o2, cp2, p2, rfl, _⟩ := hy2.cells
        have hb26 : Below W2.heap.size W2 w6 := HB23.out.trans (hb6.mono HB23.out.size)
        have t0 : w6.cell? ⟨w1.heap.size, 0, none⟩ = some (.int .i64 0) := (hb6.cell (cell_lt f3)).trans f3
        have t1 : w6.cell? ⟨w1.heap.size, 1, none⟩ = some (.int .i64 0) := (hb26.cell (p := ⟨w1.heap.size, 1, none⟩) hlt2.out).trans F1.out
        have t2 : ∀ j, w6.frozen? ⟨w1.heap.size, j, none⟩ = false := fun j => (hb26.frozen (p := ⟨w1.heap.size, j, none⟩) hlt2.out).trans (FZ.out j)
        obtain ⟨W7, eW7⟩ : ∃ W7, (w6.setCell ⟨w1.heap.size, 0, none⟩ (.int .i64 0)).setCell ⟨w1.heap.size, 1, none⟩ (.int .i64 0) = W7 := ⟨_, rfl⟩
        have t3 : W7.cell? ⟨w1.heap.size, 0, none⟩ = some (.int .i64 0) := by
          rw [← eW7]
          exact (World.cell?_setCell_other _ _ _ _ (by simp)).trans (World.cell?_setCell_same _ _ _ t0)
        have HB17 : Hid (Below w1.heap.size w1 W7) := by
          rw [← eW7]
          exact ((HB13.out.trans (hb6.mono HB13.out.size)).setCell (Nat.le_refl _) _).setCell (Nat.le_refl _) _
        have HT2 : Hid (Toks W7 L (.slice p2 L.length cp2)) := by
          obtain ⟨p, c, e, h1, h2, h3⟩ := HY2.out
          refine ⟨p, c, e, h1, h2, ?_⟩
          rcases h3 with rfl | ⟨b, o, hp, h3⟩
          · exact Or.inl rfl
          · refine Or.inr ⟨b, o, hp, fun i hi => ?_⟩
            obtain ⟨vs, g1, g2, g3⟩ := h3 i hi
            have hne : b ≠ w1.heap.size := fun e => by
              subst e
              obtain ⟨us, us', e1, e2, ⟨us2, us3, e4, e5, e6⟩⟩ := g1
              have e2' : us = [.int .i64 L[i].1] := e2
              have e5' : us2 = [.int .i64 L[i].2.1] := e5
              have e6' : us3 = [.string L[i].2.2] := e6
              subst e2' e5' e6' e4 e1
              have h := g3 2 _ rfl
              have h1' : w6.cell? ⟨w1.heap.size, 2 + (o + i * 3), none⟩ = none := (hb26.cell (p := ⟨w1.heap.size, 2 + (o + i * 3), none⟩) hlt2.out).trans (FJ.out _)
              have h2' : w6.cell? ⟨w1.heap.size, o + i * 3 + 2, none⟩ = some (.string L[i].2.2) := h
              rw [show o + i * 3 + 2 = 2 + (o + i * 3) by omega, h1'] at h2'
              simp at h2'
            refine ⟨vs, g1, g2, fun j x hx => ?_⟩
            rw [← eW7]
            exact (World.cell?_setCell_other _ _ _ _ (by simp [Addr.add, hne])).trans ((World.cell?_setCell_other _ _ _ _ (by simp [Addr.add, hne])).trans (g3 j x hx))
        clear hy2 hb6 hb26
        go_wp2_with (fail)
        refine (equalTok_calls L _ _ _ (HY.out.stays (keeps_of_below HB17.out)) HT2.out).mono ?_
        rintro e w8 ⟨rfl, hb8⟩
        have HB18 : Hid (Below w1.heap.size w1 w8) := HB17.out.trans (hb8.mono HB17.out.size)
        clear hb8
        go_wp2
        go_ret
        exact ⟨rfl, HB1.out.trans (HB18.out.mono HB1.out.size)⟩
      · have hz1 : 4000 < (s.size : Int) + note.size + 2 := by omega
        go_wp2_with (fail)
        refine (scanned_calls _).mono ?_
        rintro e w5 ⟨rfl, hb5⟩
        go_wp2
        go_ret
        exact ⟨rfl, HB03.out.trans (hb5.mono HB03.out.size)⟩
  · have q1 : (c != 0) = true := by simpa using hc
    have q2 : (c == 0) = false := by simpa using hc
    clear hc
    go_wp2_with (fail)
    refine (scanned_calls _).mono ?_
    rintro e w5 ⟨rfl, hb5⟩
    go_wp2
    go_ret
    exact ⟨rfl, HB03.out.trans (hb5.mono HB03.out.size)⟩
end Go.Proofs.Ytcobgbkoeehdnaa
