/-
  cloisterlaw.ViewAlike: for every input the call returns true, and each argument reads behind it as it read before. No conditions.
-/
import Derived.Test.YtfbieagkhbmgjaaDoorDoor
import Derived.Test.YtfbieagkhbmgjaaDoorViewAlike
namespace Go.Proofs.YtfbieagkhbmgjaaDoor.viewAlike
open Go.RowKit Go.WideShapes Go.ChangeShapes Go.ChangeAt
set_option linter.unusedVariables false
set_option linter.unusedSimpArgs false

set_option maxRecDepth 100000 in
theorem contract (H : Type) (enc : TypeId × Value → H) (W : World) (base : Nat) (args : Array Value) (ds gs : List (DataW H)) (before : List MemPlace)
    (hval : ∀ (j : Nat) t v, Tryd.f6.params[j]? = some t → args[j]? = some v → Value.okWide Tryd.prog W .any base t v)
    (hW : DataW.Whole enc Tryd.prog Tryd.f6.params.toList Rows.viewAlikeSpec.vars false W args.toList ds gs before) (hsh : W.ShapedOpen Tryd.prog) :
    Calls Tryd.prog 6 args W fun e W' => ∃ v, e = .returned v ∧ Rows.viewAlikeSpec.post enc Tryd.prog Tryd.f6 false true false false W args v W' := by
  have hW' := hW
  obtain ⟨p, q, hA0, hV, rfl, hfz, hnd⟩ := hW
  have hA : DataW.TrodAll enc Tryd.prog W 0 (fun _ => true) true Tryd.f6.params.toList args.toList ds p := hA0
  rw [Tryd.params6] at hA hval
  obtain ⟨v0, vs0, d0, ds0, p0, q0, hargs0, rfl, rfl, h0, r0⟩ := trodAll_cons hA
  obtain ⟨v1, vs1, d1, ds1, p1, q1, hargs1, rfl, rfl, h1, r1⟩ := trodAll_cons r0
  obtain ⟨v2, vs2, d2, ds2, p2, q2, hargs2, rfl, rfl, h2, r2⟩ := trodAll_cons r1
  obtain ⟨v3, vs3, d3, ds3, p3, q3, hargs3, rfl, rfl, h3, r3⟩ := trodAll_cons r2
  obtain ⟨v4, vs4, d4, ds4, p4, q4, hargs4, rfl, rfl, h4, r4⟩ := trodAll_cons r3
  obtain ⟨rfl, rfl, rfl⟩ := trodAll_nil r4
  rw [hargs4] at hargs3
  rw [hargs3] at hargs2
  rw [hargs2] at hargs1
  rw [hargs1] at hargs0
  obtain rfl : args = #[v0, v1, v2, v3, v4] := by cases args; simp_all
  obtain ⟨rfl, rfl⟩ := trodVars_none hV
  obtain ⟨pl0, pa0, pc0, pv0, pw0, px0, pp0, pn0, pk0, rfl, S01, S02, S03, G01, G02, G03⟩ := prgA_arg (by have := okWide_struct Tryd.underlying61 (hval 0 61 v0 rfl rfl); rwa [show Tryd.prog.cellsOf 61 = 4 by kernel_rfl] at this) h0
  obtain ⟨a1, rfl, G1, B1⟩ := Rd.txt_arg Tryd.underlying9 (okWide_string Tryd.underlying9 (hval 1 9 v1 rfl rfl)) h1
  obtain ⟨a2, S2, G2, B2⟩ := rdLabel.slice_arg (okWide_slice Tryd.underlying50 (hval 2 50 v2 rfl rfl)) h2
  obtain ⟨a3, S3, G3, B3⟩ := rdNumsL.slice_arg (okWide_slice Tryd.underlying62 (hval 3 62 v3 rfl rfl)) h3
  obtain ⟨a4, S4, G4, B4⟩ := rdNumsL.slice_arg (okWide_slice Tryd.underlying62 (hval 4 62 v4 rfl rfl)) h4
  obtain ⟨mx, hmx⟩ := maxLen_cell hsh
  refine (viewAlike_calls pl0 pa0 a1 a2 pc0 a3 a4 pv0 pw0 px0 v2 v3 v4 pp0 pn0 pk0 mx W S01 S02 S03 S2 S3 S4 G01 G02 G03 G2 hmx).mono fun e W' ⟨he, hb⟩ => ?_
  subst he
  exact ⟨_, rfl, law_post (tb := 4) Tryd.laidOut hW' rfl (by kernel_rfl) (by kernel_rfl) Tryd.underlying4 rfl rfl rfl hb⟩

set_option maxRecDepth 100000 in
theorem lifted (os : Os) (started : os.Started) (H : Type) (enc : TypeId × Value → H) :
    ReturnsInHanded {} Tryd.checked os 6 .any (fun w args => (Rows.viewAlikeSpec.pre enc Tryd.prog Tryd.f6 [] false w args ∧ laidMetH Tryd.prog Rows.viewAlikeRow.laid w) ∧ sizedMet enc Tryd.prog Tryd.f6 (OpenSpec.ofChange Rows.viewAlikeSpec) false w args)
      (Rows.viewAlikeSpec.post enc Tryd.prog Tryd.f6 false true false false) := by
  refine handed_and_shaped (C := Tryd.checked) (X := fun w _ => laidMetH Tryd.prog Rows.viewAlikeRow.laid w) Tryd.own started (by kernel_rfl) Tryd.func6
    (ChangeSpec.witness_shaped (enc := enc) (C := Tryd.checked) (os := os) (X := fun w _ => laidMetH Tryd.prog Rows.viewAlikeRow.laid w) false (World.laidAll Tryd.prog os Rows.viewAlikeRow.laid) #[.agg #[.slice none 0 0, .slice none 0 0, .slice none 0 0, .slice none 0 0], .string ByteArray.empty, .slice none 0 0, .slice none 0 0, .slice none 0 0] 8 (World.laidAll_os _ _ _)
      (World.shaped_of_ZipB (by kernel_rfl) (by kernel_rfl)) (by kernel_rfl) (by kernel_rfl) (by kernel_rfl)
      (by rw [MakeChecks.laidMetH_plain _ _ _ (by kernel_rfl)]; exact laidMet_laidAll _ (by kernel_rfl) (by kernel_rfl))) ?_
  intro W base args ds gs before hval hW hsh
  exact contract H enc W base args ds gs before hval hW hsh

theorem row_holds : Rows.ViewAlikeSaid :=
  OpenClaim.holds_of_wide 6 Tryd.f6 rfl rfl rfl rfl rfl rfl rfl ⟨rfl, rfl, rfl, rfl, rfl⟩ rfl rfl rfl rfl rfl (by kernel_rfl) Tryd.func6 (by kernel_rfl)
    (of_decide_eq_true (by kernel_rfl)) (by unfold Func.isWrapper; first | (rw [if_pos (by decide +kernel)]; kernel_rfl) | (rw [if_neg (by decide +kernel)]; exact ⟨rfl, rfl⟩))
    (fun os started H enc _ => lifted os started H enc)
theorem proved : Rows.ViewAlikeCardSaid :=
  Claim7.holds_tied_plain_at .later [] [.data, .pinned] true Rows.viewAlikeCard.stood.harness false row_holds (fun _ h => by cases h) (by kernel_rfl) (fun _ h => by cases h) viewAlike_row_tie rfl ⟨rfl, rfl⟩ (by kernel_rfl) rfl
    (fun f fn hf hfn => by
      obtain rfl : f = 6 := Option.some.inj ((show Tryd.prog.funcNamed "cloister/cloisterlaw.ViewAlike" = some 6 by kernel_rfl).symm.trans hf) |>.symm
      obtain rfl : fn = Tryd.f6 := (Option.some.inj (Tryd.func6.symm.trans hfn)).symm
      exact ⟨by kernel_rfl, fun j t ht => by
        rw [Tryd.params6] at ht
        have hm : t ∈ [61, 9, 50, 62, 62] := by simpa using Array.mem_of_getElem? ht
        have hall : ([61, 9, 50, 62, 62].all fun u => !Tryd.prog.wantsStandIn u) = true := by kernel_rfl
        exact (show Tryd.prog.wantsStandIn t = false by simpa using List.all_eq_true.1 hall t hm)⟩)
    (by kernel_rfl)
#print axioms proved
end Go.Proofs.YtfbieagkhbmgjaaDoor.viewAlike
