/-
  The wrap of a row that lists variables, the reach and what the variables hold handed on.
-/
import Derived.Test.YtdkclmkljcnmiaaDoorDoorS
import Derived.Lib.LaidTab
import Derived.Lib.Space
import Derived.Stop.LaidErr
import Derived.MakeChecks
namespace Go.Proofs.YtdkclmkljcnmiaaDoor
open Go.RowKit Go.ChangeShapes Go.WideShapes Go.ChangeAt
set_option linter.unusedVariables false
section
variable {H : Type} {enc : TypeId × Value → H}
theorem handed_sized_x {a : Assume} {C : Checked} {os : Os} {f : FuncId} {fn : Func} {s : ChangeSpec} {conds : List PathCond} {apart fresh handsOn again : Bool} {X : World → Array Value → Prop}
    (own : ownKnob C.prog.godebug = none) (started : os.Started) (noInit : C.prog.inits.idxOf? f = none) (hfn : C.prog.funcs[f]? = some fn)
    (witness : ∃ (w : World) (tape : Tape) (i : Input), w.os = os ∧ (w.forCall tape i).Shaped C.prog ∧ i.vars = [] ∧ Input.okWide C.prog (w.forCall tape i) .any w.heap.size f i ∧
      ((s.pre enc C.prog fn conds apart (w.forCall tape i).memory i.args ∧ X (w.forCall tape i).memory i.args) ∧ sizedMet enc C.prog fn (OpenSpec.ofChange s) apart (w.forCall tape i).memory i.args) ∧ a.holds C.prog (lone (Frame.enter C.prog f i.args .normal) [] (w.forCall tape i)))
    (contract : ∀ (W : World) (base : Nat) (args : Array Value) (ds gs : List (DataW H)) (before : List MemPlace),
      (∀ (j : Nat) t v, fn.params[j]? = some t → args[j]? = some v → Value.okWide C.prog W .any base t v) →
      DataW.Whole enc C.prog fn.params.toList s.vars apart W args.toList ds gs before →
      W.ShapedOpen C.prog →
      (DataW.weightsEach C.prog (fn.params.toList ++ (OpenSpec.ofChange s).bare.plain.varTypes C.prog) (ds ++ gs)).all (· ≤ reachBytes) = true →
      X W.memory args →
      Calls C.prog f args W fun e W' => ∃ v, e = .returned v ∧ s.post enc C.prog fn apart fresh handsOn again W args v W') :
    ReturnsInHanded a C os f .any (fun w args => (s.pre enc C.prog fn conds apart w args ∧ X w args) ∧ sizedMet enc C.prog fn (OpenSpec.ofChange s) apart w args) (s.post enc C.prog fn apart fresh handsOn again) := by
  refine returnsInHanded_of_calls own started noInit witness ?_
  intro w tape i _ hsh _ hok hpre hholds
  obtain ⟨_, _, _, fn', hfn', _, _, _, _, hval⟩ := hok
  have e : fn' = fn := Option.some.inj (hfn'.symm.trans hfn)
  subst e
  obtain ⟨⟨⟨ds, gs, before, hw, hc⟩, hx⟩, hz⟩ := hpre
  have hw' := DataW.Whole.of_heap (w' := w.forCall tape i) (by rfl) hw
  refine (contract (w.forCall tape i) w.heap.size i.args ds gs before hval hw' hsh (sizedMet.weights hz hw) hx).mono fun e W' ⟨v, he, hp⟩ => ?_
  subst he
  exact ChangeSpec.post_blind hp
theorem reach_txt {P : Program} {w : World} {t : TypeId} {s : Txt} {d : DataW H} {ps : List MemPlace} (ht : P.underlying t = some .string)
    (h : DataW.Trod enc P w 0 (fun _ => true) true t (.string s) d ps) {ts : List TypeId} {ds : List (DataW H)} {j : Nat} (hsz : (DataW.weightsEach P ts ds).all (· ≤ reachBytes) = true) (hj : ts[j]? = some t) (hd : ds[j]? = some d) : s.size ≤ 140737488351232 := by
  obtain ⟨fuel, hf⟩ := h
  cases fuel with
  | zero => simp [DataW.trod] at hf
  | succ fuel =>
    simp only [DataW.trod, ht] at hf
    have : d = .lit (.string s.data.toList) := by
      simp [Value.cells] at hf
      exact hf.2.1.symm
    subst this
    have := sized_string hsz hj hd
    rw [Array.length_toList] at this
    exact this
end
set_option maxRecDepth 100000 in
theorem space_tab {rest : List (String × DataW Unit)} {a b : String × DataW Unit} {W : World} (hh : ((a :: b :: ("strings.asciiSpace", Rows.laid_strings_asciiSpace) :: rest).all fun x => x.2.handleName?.isNone) = true)
    (h : laidMetH Tryd.prog (a :: b :: ("strings.asciiSpace", Rows.laid_strings_asciiSpace) :: rest) W.memory) : Lib.TabIs Tryd.prog W "strings.asciiSpace" .u8 Lib.asciiSpaceTab := by
  rw [MakeChecks.laidMetH_plain _ _ _ hh] at h
  have h2 := (laidMet.tail (laidMet.tail h))
  have e : (Rows.laid_strings_asciiSpace : DataW Unit) = Lib.tabData .u8 Lib.asciiSpaceTab := by kernel_rfl
  rw [e] at h2
  exact Lib.tabIs_of_head (g := 0) (t := 54) (e := 5) (n := 256) (W := W.memory) (by kernel_rfl) (by kernel_rfl) Tryd.underlying54 Tryd.underlying5 (by kernel_rfl) (by kernel_rfl) h2
end Go.Proofs.YtdkclmkljcnmiaaDoor
