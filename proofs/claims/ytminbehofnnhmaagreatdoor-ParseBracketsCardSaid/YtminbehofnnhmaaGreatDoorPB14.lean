/- The statement of ParseBrackets: for every input the call returns true, and each argument reads behind it as it read before. No conditions. -/
import Derived.Test.YtminbehofnnhmaaGreatDoorPB00
import Derived.Test.YtminbehofnnhmaaGreatDoorPB06
import Derived.Test.YtminbehofnnhmaaGreatDoorPB08
import Derived.Test.YtminbehofnnhmaaGreatDoorPB13
set_option linter.unusedVariables false
set_option linter.unusedSimpArgs false
set_option maxHeartbeats 8000000
set_option maxRecDepth 100000
namespace Go.Proofs.YtminbehofnnhmaaGreatDoor.parseBrackets
open Go.RowKit Go.WideShapes Go.ChangeShapes Go.ChangeAt
theorem contract (H : Type) (enc : TypeId × Value → H) (W : World) (base : Nat) (args : Array Value) (ds gs : List (DataW H)) (before : List MemPlace)
 (hval : ∀ (j : Nat) t v, Tryz.f3.params[j]? = some t → args[j]? = some v → Value.okWide Tryz.prog W .any base t v)
 (hW : DataW.Whole enc Tryz.prog Tryz.f3.params.toList Rows.parseBracketsSpec.vars false W args.toList ds gs before) (hsh : W.ShapedOpen Tryz.prog)
 (hsz : (DataW.weightsEach Tryz.prog (Tryz.f3.params.toList ++ (OpenSpec.ofChange Rows.parseBracketsSpec).bare.plain.varTypes Tryz.prog) (ds ++ gs)).all (· ≤ reachBytes) = true)
 (hx : laidMetH Tryz.prog Rows.parseBracketsRow.laid W.memory) :
 Calls Tryz.prog 3 args W fun e W' => ∃ v, e = .returned v ∧ Rows.parseBracketsSpec.post enc Tryz.prog Tryz.f3 false true false false W args v W' := by
 have hW' := hW
 obtain ⟨p, q, hA0, hV, rfl, hfz, hnd⟩ := hW
 have hA : DataW.TrodAll enc Tryz.prog W 0 (fun _ => true) true Tryz.f3.params.toList args.toList ds p := hA0
 rw [Tryz.params3] at hA hval hsz
 obtain ⟨v0, vs0, d0, ds0, p0, q0, hargs0, rfl, rfl, h0, r0⟩ := trodAll_cons hA
 obtain ⟨v1, vs1, d1, ds1, p1, q1, hargs1, rfl, rfl, h1, r1⟩ := trodAll_cons r0
 obtain ⟨v2, vs2, d2, ds2, p2, q2, hargs2, rfl, rfl, h2, r2⟩ := trodAll_cons r1
 obtain ⟨rfl, rfl, rfl⟩ := trodAll_nil r2
 rw [hargs2] at hargs1
 rw [hargs1] at hargs0
 obtain rfl : args = #[v0, v1, v2] := by cases args; simp_all
 obtain ⟨rfl, rfl⟩ := trodVars_none hV
 obtain ⟨a0, S0, G0⟩ := ex_arg (by have := okWide_struct Tryz.underlying26 (hval 0 26 v0 rfl rfl); rwa [show Tryz.prog.cellsOf 26 = 7 by kernel_rfl] at this) h0
 obtain ⟨a1, S1, G1, B1⟩ := rdLabel.slice_arg (okWide_slice Tryz.underlying23 (hval 1 23 v1 rfl rfl)) h1
 obtain ⟨a2, rfl, G2⟩ := Rd.num_arg Tryz.underlying3 (okWide_int Tryz.underlying3 (hval 2 3 v2 rfl rfl)) h2
 obtain ⟨mx, hmx⟩ := maxLen_cell hsh
 refine (brackets_calls a0 v0 a1 v1 a2 W S0 S1 G2 (tab_at 6 (rest := Rows.parseBracketsRow.laid.drop 7) (by kernel_rfl) hx (by kernel_rfl)) (pow_at 2 (rest := Rows.parseBracketsRow.laid.drop 3) (by kernel_rfl) hx (by kernel_rfl))).mono fun e W' ⟨he, hb⟩ => ?_
 subst he
 exact ⟨_, rfl, law_post (tb := 4) Tryz.laidOut hW' rfl (by kernel_rfl) (by kernel_rfl) Tryz.underlying4 rfl rfl rfl hb⟩
theorem lifted (os : Os) (started : os.Started) (H : Type) (enc : TypeId × Value → H) :
 ReturnsInHanded {} Tryz.checked os 3 .any (fun w args => (Rows.parseBracketsSpec.pre enc Tryz.prog Tryz.f3 [] false w args ∧ laidMetH Tryz.prog Rows.parseBracketsRow.laid w) ∧ sizedMet enc Tryz.prog Tryz.f3 (OpenSpec.ofChange Rows.parseBracketsSpec) false w args)
  (Rows.parseBracketsSpec.post enc Tryz.prog Tryz.f3 false true false false) := by
 refine handed_sized_x (C := Tryz.checked) (X := fun w _ => laidMetH Tryz.prog Rows.parseBracketsRow.laid w) Tryz.own started (by kernel_rfl) Tryz.func3
  (ChangeSpec.witness_shaped (enc := enc) (C := Tryz.checked) (os := os) (X := fun w _ => laidMetH Tryz.prog Rows.parseBracketsRow.laid w) false (World.laidAll Tryz.prog os Rows.parseBracketsRow.laid) #[.agg #[.int .i64 0, .int .i64 0, .int .i64 0, .int .i64 0, .string ByteArray.empty, .slice none 0 0, .slice none 0 0], .slice none 0 0, .int .i64 0] 8 (World.laidAll_os _ _ _)
    (World.shaped_of_ZipB (by kernel_rfl) (by kernel_rfl)) (by kernel_rfl) (by kernel_rfl) (by kernel_rfl)
    (by rw [MakeChecks.laidMetH_plain _ _ _ (by kernel_rfl)]; exact laidMet_laidAll _ (by kernel_rfl) (by kernel_rfl))) ?_
 intro W base args ds gs before hval hW hsh hsz hx
 exact contract H enc W base args ds gs before hval hW hsh hsz hx
theorem split1 {a b : Bool} (h : a = true) (k : b = true) : (a && b) = true := by rw [h, k]; rfl
theorem closed : joinedFacts Tryz.prog 3 Tryz.f3 Rows.parseBracketsSpec Rows.parseBracketsRow = true := by
 unfold joinedFacts
 iterate 31 refine split1 ?_ ?_
 all_goals as_aux_lemma => kernel_rfl
theorem named : Tryz.prog.funcNamed "cloister/cloisterlaw.ParseBrackets" = some 3 := by kernel_rfl
theorem wraps : Tryz.f3.isWrapper Tryz.prog Rows.parseBracketsRow.wrapper Rows.parseBracketsRow.mainSum := by unfold Func.isWrapper; first | (rw [if_pos (by decide +kernel)]; kernel_rfl) | (rw [if_neg (by decide +kernel)]; exact ⟨rfl, rfl⟩)
theorem row_holds : Rows.ParseBracketsSaid :=
 OpenClaim.holds_of_wide 3 Tryz.f3 rfl rfl rfl rfl rfl rfl rfl ⟨rfl, rfl, rfl, rfl, rfl⟩ rfl rfl rfl rfl rfl named Tryz.func3 closed
  (of_decide_eq_true (by as_aux_lemma => kernel_rfl)) wraps
  (fun os started H enc _ => lifted os started H enc)
theorem proved : Rows.ParseBracketsCardSaid :=
 Claim7.holds_tied_plain_at .later [] [.data, .data, .data, .sentinel, .sentinel, .listed, .data] true Rows.parseBracketsCard.stood.harness true row_holds (fun _ h => by cases h) (by as_aux_lemma => kernel_rfl) (fun _ h => by cases h) parseBrackets_row_tie rfl ⟨rfl, rfl⟩ (by as_aux_lemma => kernel_rfl) rfl
  (fun f fn hf hfn => by
    obtain rfl : f = 3 := Option.some.inj (named.symm.trans hf) |>.symm
    obtain rfl : fn = Tryz.f3 := (Option.some.inj (Tryz.func3.symm.trans hfn)).symm
    exact ⟨by as_aux_lemma => kernel_rfl, fun j t ht => by
     rw [Tryz.params3] at ht
     have hm : t ∈ [26, 23, 3] := by simpa using Array.mem_of_getElem? ht
     have hall : ([26, 23, 3].all fun u => !Tryz.prog.wantsStandIn u) = true := by as_aux_lemma => kernel_rfl
     exact (show Tryz.prog.wantsStandIn t = false by simpa using List.all_eq_true.1 hall t hm)⟩)
  (by as_aux_lemma => kernel_rfl)
#print axioms proved
end Go.Proofs.YtminbehofnnhmaaGreatDoor.parseBrackets
