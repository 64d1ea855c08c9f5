/-
  Bounds and labels as they lie in memory.
-/
import Derived.Test.YtjjlkckhbhgmoaaSolveP
import Derived.Test.YtjjlkckhbhgmoaaEq0
namespace Go.Proofs.Ytjjlkckhbhgmoaa
open Go.RowKit Go.Maps
set_option linter.unusedVariables false
set_option linter.unusedSimpArgs false

theorem nil_readsS {α : Type} (E : Enc α) (k : Nat) (w : World) : SliceOf E k w [] (.slice none 0 0) := ⟨none, 0, rfl, by simp, by unfold maxLen; omega, .inl rfl⟩
theorem Nums.cells {w : World} {l : List Int} {v : Value} (h : Nums w l v) :
    ∃ b o c p, v = .slice p l.length c ∧ l.length ≤ c ∧ c ≤ 9223372036854775807 ∧ (0 < l.length → p = some ⟨b, o, none⟩) ∧ ∀ (i : Nat) (h : i < l.length), w.cell? ⟨b, o + i, none⟩ = some (.int .i64 l[i]) := by
  obtain ⟨p, c, e, h1, h2, h3⟩ := h
  unfold maxLen at h2
  rcases h3 with rfl | ⟨b, o, hp, h3⟩
  · exact ⟨0, 0, c, p, e, h1, by omega, fun h => absurd h (by simp), fun i h => absurd h (by simp)⟩
  · refine ⟨b, o, c, p, e, h1, by omega, fun _ => hp, fun i hi => ?_⟩
    obtain ⟨vs, g1, g2, g3⟩ := h3 i hi
    have := g3 0 (.int .i64 l[i]) (by rw [g1]; rfl)
    simpa using this
/-- `[]api.Label`. -/
abbrev Labs (w : World) (m : List Lab) (v : Value) : Prop := SliceOf (Sl pol 2) 1 w m v
theorem labs_stays : Stays (Sl pol 2) := Sl.stays pol_stays 2
theorem Labs.stays {w w' : World} (hk : Keeps w w') {l : List Lab} {v : Value} (h : Labs w l v) : Labs w' l v := SliceOf.stays labs_stays hk h
theorem Labs.cells {w : World} {l : List Lab} {v : Value} (h : Labs w l v) :
    ∃ b o c p, v = .slice p l.length c ∧ l.length ≤ c ∧ c ≤ 9223372036854775807 ∧ (0 < l.length → p = some ⟨b, o, none⟩) ∧ ∀ (i : Nat) (h : i < l.length), ∃ u, w.cell? ⟨b, o + i, none⟩ = some u ∧ Lbl w l[i] u := by
  obtain ⟨p, c, e, h1, h2, h3⟩ := h
  unfold maxLen at h2
  rcases h3 with rfl | ⟨b, o, hp, h3⟩
  · exact ⟨0, 0, c, p, e, h1, by omega, fun h => absurd h (by simp), fun i h => absurd h (by simp)⟩
  · refine ⟨b, o, c, p, e, h1, by omega, fun _ => hp, fun i hi => ?_⟩
    obtain ⟨vs, ⟨u, e1, e2⟩, g2, g3⟩ := h3 i hi
    subst e1
    exact ⟨u, by simpa using g3 0 _ rfl, e2⟩
def bnd : Enc Bnd := Both (Sl num 1) (Both (Sl pol 2) (Both num (Both (Sl pol 2) (Both num (Sl txt 1)))))
theorem bnd_stays : Stays bnd := Both.stays (Sl.stays (One.stays _) 1) (Both.stays labs_stays (Both.stays (One.stays _) (Both.stays labs_stays (Both.stays (One.stays _) (Sl.stays (One.stays _) 1)))))
/-- `[]api.Bound`. -/
abbrev Bnds (w : World) (l : List Bnd) (v : Value) : Prop := SliceOf bnd 6 w l v
theorem Bnds.stays {w w' : World} (hk : Keeps w w') {l : List Bnd} {v : Value} (h : Bnds w l v) : Bnds w' l v := SliceOf.stays bnd_stays hk h
/-- What six cells say of a bound. -/
structure BndIs (w : World) (b : Bnd) (x0 x1 x2 x3 x4 x5 : Value) : Prop where
  from_ : Nums w (bFrom b) x0
  lab : Lbl w (bL b) x1
  to : x2 = .int .i64 (bTo b)
  into : Lbl w (bInto b) x3
  at_ : x4 = .int .i64 b.2.2.2.2.1
  for_ : Strs w (bFor b) x5
theorem BndIs.stays {w w' : World} (hk : Keeps w w') {b : Bnd} {x0 x1 x2 x3 x4 x5 : Value} (h : BndIs w b x0 x1 x2 x3 x4 x5) : BndIs w' b x0 x1 x2 x3 x4 x5 :=
  ⟨h.from_.stays hk, h.lab.stays hk, h.to, h.into.stays hk, h.at_, h.for_.stays hk⟩
theorem bnd_is {w : World} {b : Bnd} {vs : List Value} (h : bnd w b vs) : ∃ x0 x1 x2 x3 x4 x5, vs = [x0, x1, x2, x3, x4, x5] ∧ BndIs w b x0 x1 x2 x3 x4 x5 := by
  obtain ⟨_, _, rfl, ⟨x0, rfl, h0⟩, _, _, rfl, ⟨x1, rfl, h1⟩, u2, _, rfl, e2, _, _, rfl, ⟨x3, rfl, h3⟩, u4, _, rfl, e4, ⟨x5, rfl, h5⟩⟩ := h
  have e2' : u2 = [.int .i64 (bTo b)] := e2
  have e4' : u4 = [.int .i64 b.2.2.2.2.1] := e4
  subst e2' e4'
  exact ⟨x0, x1, _, x3, _, x5, rfl, h0, h1, rfl, h3, rfl, h5⟩
theorem Bnds.cells {w : World} {l : List Bnd} {v : Value} (h : Bnds w l v) :
    ∃ b o c p, v = .slice p l.length c ∧ l.length ≤ c ∧ c ≤ 9223372036854775807 ∧ (0 < l.length → p = some ⟨b, o, none⟩) ∧
      ∀ (i : Nat) (h : i < l.length), ∃ x0 x1 x2 x3 x4 x5, BndIs w l[i] x0 x1 x2 x3 x4 x5 ∧ w.cell? ⟨b, o + i * 6, none⟩ = some x0 ∧ w.cell? ⟨b, o + i * 6 + 1, none⟩ = some x1 ∧ w.cell? ⟨b, o + i * 6 + 2, none⟩ = some x2 ∧
        w.cell? ⟨b, o + i * 6 + 3, none⟩ = some x3 ∧ w.cell? ⟨b, o + i * 6 + 4, none⟩ = some x4 ∧ w.cell? ⟨b, o + i * 6 + 5, none⟩ = some x5 := by
  obtain ⟨p, c, e, h1, h2, h3⟩ := h
  unfold maxLen at h2
  rcases h3 with rfl | ⟨b, o, hp, h3⟩
  · exact ⟨0, 0, c, p, e, h1, by omega, fun h => absurd h (by simp), fun i h => absurd h (by simp)⟩
  · refine ⟨b, o, c, p, e, h1, by omega, fun _ => hp, fun i hi => ?_⟩
    obtain ⟨vs, g1, g2, g3⟩ := h3 i hi
    obtain ⟨x0, x1, x2, x3, x4, x5, rfl, hb⟩ := bnd_is g1
    exact ⟨x0, x1, x2, x3, x4, x5, hb, by simpa using g3 0 _ rfl, by simpa using g3 1 _ rfl, by simpa using g3 2 _ rfl, by simpa using g3 3 _ rfl, by simpa using g3 4 _ rfl, by simpa using g3 5 _ rfl⟩
def okBnd : Bnd → Prop := okBoth (okList okNum) (okBoth okLab (okBoth okNum (okBoth okLab (okBoth okNum (okList okTxt)))))
def szBnd : Bnd → Nat := szBoth (szList szOne) (szBoth (szList szPol) (szBoth szOne (szBoth (szList szPol) (szBoth szOne (szList szTxt)))))
theorem rdNums : Rd Try.prog 41 (Sl num 1) (okList okNum) (szList szOne) := Rd.slice Try.underlying41 (by decide) (by kernel_rfl) (Rd.num Try.underlying3)
theorem rdLabels : Rd Try.prog 38 (Sl (Sl pol 2) 1) (okList okLab) (szList (szList szPol)) := Rd.slice Try.underlying38 (by decide) (by kernel_rfl) rdLabel
theorem rdBnd : Rd Try.prog 46 bnd okBnd szBnd :=
  Rd.struct (tot := 6) Try.underlying46 (by kernel_rfl) (Rdf.cons (k := 1) (o' := 1) rfl rfl (by kernel_rfl) rfl rdNums (Rdf.cons (k := 1) (o' := 2) rfl rfl (by kernel_rfl) rfl rdLabel (Rdf.cons (k := 1) (o' := 3) rfl rfl (by kernel_rfl) rfl (Rd.num Try.underlying3)
    (Rdf.cons (k := 1) (o' := 4) rfl rfl (by kernel_rfl) rfl rdLabel (Rdf.cons (k := 1) (o' := 5) rfl rfl (by kernel_rfl) rfl (Rd.num Try.underlying3) (Rdf.last (k := 1) rfl rfl (by kernel_rfl) rdStrs))))))
theorem rdBnds : Rd Try.prog 37 (Sl bnd 6) (okList okBnd) (szList szBnd) := Rd.slice Try.underlying37 (by decide) (by kernel_rfl) rdBnd
end Go.Proofs.Ytjjlkckhbhgmoaa
