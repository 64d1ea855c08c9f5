/-
  The reference's IsWord and IsName are the program's words and names.
-/
import Derived.Test.YtdkclmkljcnmiaaDoorIsP
import Derived.Test.YtdkclmkljcnmiaaDoorShelf
import Derived.Shelf.Strings.SlTrimAscii
import Derived.Lib.IndexLaws
import Derived.Test.YtdkclmkljcnmiaaDoorLaw
namespace Go.Proofs.YtdkclmkljcnmiaaDoor
open Go.RowKit
set_option linter.unusedVariables false
set_option linter.unusedSimpArgs false

theorem blank_iff (s : Txt) : decide (0 ≤ Lib.indexByte s.data.toList 32) = true ↔ (32 : UInt8) ∈ bytesOf s := by
  rw [decide_eq_true_iff]
  have hge := Lib.indexByte_ge s.data.toList 32
  constructor
  · intro h
    obtain ⟨o, ho⟩ : ∃ o : Nat, Lib.indexByte s.data.toList 32 = o := ⟨(Lib.indexByte s.data.toList 32).toNat, by omega⟩
    exact List.mem_of_getElem? (Lib.indexByte_some ho).1
  · intro h
    apply Decidable.byContradiction
    intro hn
    have h1 : Lib.indexByte s.data.toList 32 = -1 := by omega
    obtain ⟨k, hk⟩ := List.mem_iff_getElem?.1 h
    exact Lib.indexByte_none h1 k hk
theorem pad_bytes (s : Txt) : (((⟨#[32]⟩ : Txt) ++ s) ++ (⟨#[32]⟩ : Txt)).data.toList = 32 :: (bytesOf s ++ [32]) := by
  show bytesOf _ = _
  rw [bytesOf_append, bytesOf_append]
  rfl
theorem contains_mem (l : List UInt8) (c : UInt8) : Lib.contains l [c] = l.contains c := by
  rw [Bool.eq_iff_iff, contains_infix, List.contains_iff_mem]
  constructor
  · rintro ⟨a, b, e⟩
    rw [← e]; simp
  · intro h
    obtain ⟨a, b, rfl⟩ := List.append_of_mem h
    exact ⟨a, b, by simp⟩

set_option maxHeartbeats 1000000 in
set_option maxRecDepth 100000 in
theorem refWord_calls (s : Txt) (m : Int) (w : World) (hs : s.size ≤ 9223372036854775000) (hm : w.cell? ⟨2, 0, none⟩ = some (.int .i64 m)) :
    Calls Tryd.prog 9 #[.string s] w fun e w' => e = .returned (.bool (isWord s)) ∧ w = w' := by
  by_cases h0 : s = ⟨#[]⟩
  · subst h0
    have hx : isWord ⟨#[]⟩ = false := by decide +kernel
    rw [hx]
    go_enter Tryd.func9, Tryd.ntmps9
    go_wp2
    go_ret
    exact ⟨rfl, rfl⟩
  · have hne : bytesOf s ≠ [] := fun e => h0 (txt_ext (by rw [e]; rfl))
    have hq : ¬ s.toList = [] := by rw [Lib.toList_data]; exact hne
    have hqe : s.toList.isEmpty = false := by rw [Lib.toList_data]; cases h : s.data.toList with
      | nil => exact absurd h hne
      | cons => rfl
    have hq1 : ¬ 9223372036854775807 < 1 + s.size := by omega
    have hq2 : ¬ 9223372036854775807 < 1 + s.size + 1 := by omega
    have HPAD : Hid (∀ P : Txt, P.data.toList = padB → Lib.contains P.data.toList (((⟨#[32]⟩ : Txt) ++ s) ++ (⟨#[32]⟩ : Txt)).data.toList = Lib.contains padB (32 :: (bytesOf s ++ [32]))) := fun P h => by rw [h, pad_bytes]
    have HM := Lib.hid hm
    clear h0 hm
    cases hC : Lib.contains padB (32 :: (bytesOf s ++ [32])) with
    | false =>
      have hx : isWord s = false := by
        cases h : isWord s with
        | false => rfl
        | true =>
          have hb : (32 : UInt8) ∉ bytesOf s := fun hb => by rw [word_blank s hb] at h; cases h
          rw [word_law s hne hb, h] at hC
          cases hC
      have HX := Lib.hid hx
      have HC := Lib.hid hC
      clear hx hC hne
      go_enter Tryd.func9, Tryd.ntmps9
      go_wp2_with (fail)
      refine (Tryd.strings_Contains _ _ m _ (by decide +kernel) HM.out).mono ?_
      rintro e w1 ⟨rfl, rfl⟩
      rw [HPAD.out _ ?hp]
      case hp => kernel_rfl
      rw [HC.out]
      go_wp2
      go_ret
      exact ⟨by rw [HX.out]; rfl, rfl⟩
    | true =>
      have HC := Lib.hid hC
      cases hB : decide (0 ≤ Lib.indexByte s.data.toList 32) with
      | true =>
        have hx : isWord s = false := word_blank s ((blank_iff s).1 hB)
        have HX := Lib.hid hx
        have HB := Lib.hid hB
        clear hx hC hne hB
        go_enter Tryd.func9, Tryd.ntmps9
        go_wp2_with (fail)
        refine (Tryd.strings_Contains _ _ m _ (by decide +kernel) HM.out).mono ?_
        rintro e w1 ⟨rfl, rfl⟩
        rw [HPAD.out _ ?hp]
        case hp => kernel_rfl
        rw [HC.out]
        go_wp2_with (fail)
        refine (Tryd.strings_Contains_one s 32 _).mono ?_
        rintro e w2 ⟨rfl, rfl⟩
        rw [HB.out]
        go_wp2
        go_ret
        exact ⟨by rw [HX.out]; rfl, rfl⟩
      | false =>
        have hb : (32 : UInt8) ∉ bytesOf s := fun h => by rw [(blank_iff s).2 h] at hB; cases hB
        have hx : isWord s = true := by rw [← word_law s hne hb]; exact hC
        have HX := Lib.hid hx
        have HB := Lib.hid hB
        clear hx hC hne hB hb
        go_enter Tryd.func9, Tryd.ntmps9
        go_wp2_with (fail)
        refine (Tryd.strings_Contains _ _ m _ (by decide +kernel) HM.out).mono ?_
        rintro e w1 ⟨rfl, rfl⟩
        rw [HPAD.out _ ?hp]
        case hp => kernel_rfl
        rw [HC.out]
        go_wp2_with (fail)
        refine (Tryd.strings_Contains_one s 32 _).mono ?_
        rintro e w2 ⟨rfl, rfl⟩
        rw [HB.out]
        go_wp2
        go_ret
        exact ⟨by rw [HX.out]; rfl, rfl⟩

set_option maxHeartbeats 1000000 in
set_option maxRecDepth 100000 in
theorem refName_calls (s : Txt) (m : Int) (w : World) (hs : okTxt s) (hm : w.cell? ⟨2, 0, none⟩ = some (.int .i64 m)) :
    Calls Tryd.prog 11 #[.string s] w fun e w' => e = .returned (.bool (isName s)) ∧ Below w.heap.size w w' := by
  by_cases h0 : s = ⟨#[]⟩
  · subst h0
    have hx : isName ⟨#[]⟩ = false := by decide +kernel
    rw [hx]
    go_enter Tryd.func11, Tryd.ntmps11
    go_wp2
    go_ret
    exact ⟨rfl, Below.refl _ _⟩
  · have hne : bytesOf s ≠ [] := fun e => h0 (txt_ext (by rw [e]; rfl))
    have hq : ¬ s.toList = [] := by rw [Lib.toList_data]; exact hne
    have hqe : s.toList.isEmpty = false := by rw [Lib.toList_data]; cases h : s.data.toList with
      | nil => exact absurd h hne
      | cons => rfl
    have hsz : 1 ≤ s.size := by
      have := List.length_pos_iff.2 hne
      rw [bytesOf_len] at this
      exact this
    have HS := Lib.hid hs
    clear h0 hs
    by_cases h12 : s.size ≤ 12
    · have h12' : (s.size : Int) ≤ 12 := by omega
      have HW := Lib.hid (refWord_calls s m w (by omega) hm)
      have HM := Lib.hid hm
      clear hm
      cases hw : isWord s with
      | true =>
        have hx : isName s = false := by unfold isName; rw [hw]; simp
        have HX := Lib.hid hx
        rw [hw] at HW
        clear hx hne hw
        go_enter Tryd.func11, Tryd.ntmps11
        go_wp2_with (fail)
        refine HW.out.mono ?_
        rintro e w1 ⟨rfl, rfl⟩
        go_wp2
        go_ret
        exact ⟨by rw [HX.out]; rfl, Below.refl _ _⟩
      | false =>
        have hlaw := name_law s hsz h12 hw
        rw [hw] at HW
        have hs1 : (1 : Int) ≤ (s.size : Int) := by omega
        have HT : Hid (∀ cut : Txt, cut.data.toList = lettersB ++ figuresB → Calls Tryd.prog 29 #[.string s, .string cut] w fun e w' => ∃ T : Txt, e = .returned (.string T) ∧ T.toList.isEmpty = decide (Lib.trimS (bytesOf s) (lettersB ++ figuresB) = []) ∧ Below w.heap.size w w') := fun cut hc => by
          have hsz2 : cut.size = 63 := by
            have := congrArg List.length hc
            rw [Array.length_toList] at this
            exact this.trans (by decide +kernel)
          refine (Any.strings_Trim_laid Tryd.lays160 (by kernel_rfl) s cut w (by have := HS.out; unfold okTxt at this; omega) (by omega) (by rw [hc]; exact ascii_of_all (by decide +kernel))).mono ?_
          rintro e w' ⟨rfl, hb⟩
          refine ⟨_, rfl, ?_, hb⟩
          rw [hc, Lib.toList_data]
          show (Lib.trimS (bytesOf s) (lettersB ++ figuresB)).isEmpty = _
          cases Lib.trimS (bytesOf s) (lettersB ++ figuresB) <;> rfl
        have HF : Hid (∀ P : Txt, P.data.toList = figuresB → Lib.contains P.data.toList (s.extract 0 1).data.toList = figuresB.contains (s.data.toList.getD 0 0)) := fun P h => by
          have e1 : (s.extract 0 1).data.toList = [s.data.toList.getD 0 0] := by
            show bytesOf _ = _
            rw [bytesOf_extract]
            unfold bytesOf at hne ⊢
            cases hl : s.data.toList with
            | nil => exact absurd hl hne
            | cons x l => rfl
          rw [h, e1, contains_mem]
        have HLAW := Lib.hid hlaw
        clear hlaw hw hne
        cases hT : decide (Lib.trimS (bytesOf s) (lettersB ++ figuresB) = []) with
        | false =>
          have HX : Hid (isName s = false) := by unfold Hid; rw [HLAW.out, hT]; rfl
          rw [hT] at HT
          clear hT
          go_enter Tryd.func11, Tryd.ntmps11
          go_wp2_with (fail)
          refine HW.out.mono ?_
          rintro e w1 ⟨rfl, rfl⟩
          go_wp2_with (fail)
          refine (HT.out _ ?hc).mono ?_
          case hc => kernel_rfl
          rintro e w2 ⟨T, rfl, hT, hb⟩
          have hT2 : ¬ T.toList = [] := fun e => by rw [e] at hT; cases hT
          go_wp2
          go_ret
          exact ⟨by rw [HX.out]; rfl, hb⟩
        | true =>
          rw [hT] at HT
          cases hf : figuresB.contains (s.data.toList.getD 0 0) with
          | true =>
            have HX : Hid (isName s = false) := by unfold Hid; rw [HLAW.out, hT, hf]; rfl
            rw [hf] at HF
            clear hT hf
            go_enter Tryd.func11, Tryd.ntmps11
            go_wp2_with (fail)
            refine HW.out.mono ?_
            rintro e w1 ⟨rfl, rfl⟩
            go_wp2_with (fail)
            refine (HT.out _ ?hc).mono ?_
            case hc => kernel_rfl
            rintro e w2 ⟨T, rfl, hT, hb⟩
            have hT2 : T.toList = [] := List.isEmpty_iff.1 hT
            go_wp2_with (fail)
            refine (Tryd.strings_Contains _ _ m _ (by decide +kernel) ((hb.cell (cell_lt HM.out)).trans HM.out)).mono ?_
            rintro e w3 ⟨rfl, rfl⟩
            rw [HF.out _ ?hc]
            case hc => kernel_rfl
            go_wp2
            go_ret
            exact ⟨by rw [HX.out]; rfl, hb⟩
          | false =>
            have HX : Hid (isName s = true) := by unfold Hid; rw [HLAW.out, hT, hf]; rfl
            rw [hf] at HF
            clear hT hf
            go_enter Tryd.func11, Tryd.ntmps11
            go_wp2_with (fail)
            refine HW.out.mono ?_
            rintro e w1 ⟨rfl, rfl⟩
            go_wp2_with (fail)
            refine (HT.out _ ?hc).mono ?_
            case hc => kernel_rfl
            rintro e w2 ⟨T, rfl, hT, hb⟩
            have hT2 : T.toList = [] := List.isEmpty_iff.1 hT
            go_wp2_with (fail)
            refine (Tryd.strings_Contains _ _ m _ (by decide +kernel) ((hb.cell (cell_lt HM.out)).trans HM.out)).mono ?_
            rintro e w3 ⟨rfl, rfl⟩
            rw [HF.out _ ?hc]
            case hc => kernel_rfl
            go_wp2
            go_ret
            exact ⟨by rw [HX.out]; rfl, hb⟩
    · have hx : isName s = false := by unfold isName; simp [h12]
      have h12' : ¬ (s.size : Int) ≤ 12 := by omega
      have HX := Lib.hid hx
      clear hx hne h12
      go_enter Tryd.func11, Tryd.ntmps11
      go_wp2
      go_ret
      exact ⟨by rw [HX.out]; rfl, Below.refl _ _⟩
end Go.Proofs.YtdkclmkljcnmiaaDoor
