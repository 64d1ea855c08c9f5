/-
  A program's chiefs, pairs and channels as they lie in memory (its procedures left unread); lists of lists of numbers.
-/
import Derived.Test.YtfbieagkhbmgjaaDoorLabA
import Derived.Test.YtfbieagkhbmgjaaDoorEq0
namespace Go.Proofs.YtfbieagkhbmgjaaDoor
open Go.RowKit Go.WideShapes
set_option linter.unusedVariables false
set_option linter.unusedSimpArgs false

/-- A channel: where it stands, its name, whether it comes in, its type, its label. -/
abbrev Chn := Int × Txt × Bool × Int × Lab
def chn : Enc Chn := Both num (Both txt (Both truth (Both num (Sl pol 2))))
theorem chn_stays : Stays chn := Both.stays (One.stays _) (Both.stays (One.stays _) (Both.stays (One.stays _) (Both.stays (One.stays _) (Sl.stays pol_stays 2))))
def okChn : Chn → Prop := okBoth okNum (okBoth okTxt (okBoth okAny (okBoth okNum okLab)))
def szChn : Chn → Nat := szBoth szOne (szBoth szTxt (szBoth szOne (szBoth szOne (szList szPol))))
theorem rdChn : Rd Tryd.prog 68 chn okChn szChn :=
  Rd.struct (tot := 5) Tryd.underlying68 (by kernel_rfl) (Rdf.cons (k := 1) (o' := 1) rfl rfl (by kernel_rfl) rfl (Rd.num Tryd.underlying3) (Rdf.cons (k := 1) (o' := 2) rfl rfl (by kernel_rfl) rfl (Rd.txt Tryd.underlying9)
    (Rdf.cons (k := 1) (o' := 3) rfl rfl (by kernel_rfl) rfl (Rd.truth Tryd.underlying4) (Rdf.cons (k := 1) (o' := 4) rfl rfl (by kernel_rfl) rfl (Rd.num Tryd.underlying3) (Rdf.last (k := 1) rfl rfl (by kernel_rfl) rdLabel)))))
/-- `[]api.Chan`. -/
abbrev Chns (w : World) (l : List Chn) (v : Value) : Prop := SliceOf chn 5 w l v
theorem rdChns : Rd Tryd.prog 58 (Sl chn 5) (okList okChn) (szList szChn) := Rd.slice Tryd.underlying58 (by decide) (by kernel_rfl) rdChn
theorem Chns.stays {w w' : World} (hk : Keeps w w') {l : List Chn} {v : Value} (h : Chns w l v) : Chns w' l v := SliceOf.stays chn_stays hk h
theorem Chns.cells {w : World} {l : List Chn} {v : Value} (h : Chns w l v) :
    ∃ b o c p, v = .slice p l.length c ∧ l.length ≤ c ∧ c ≤ 9223372036854775807 ∧ (0 < l.length → p = some ⟨b, o, none⟩) ∧
      ∀ (i : Nat) (h : i < l.length), ∃ u, w.cell? ⟨b, o + i * 5, none⟩ = some (.int .i64 l[i].1) ∧ w.cell? ⟨b, o + i * 5 + 1, none⟩ = some (.string l[i].2.1) ∧ w.cell? ⟨b, o + i * 5 + 2, none⟩ = some (.bool l[i].2.2.1) ∧ w.cell? ⟨b, o + i * 5 + 3, none⟩ = some (.int .i64 l[i].2.2.2.1) ∧ w.cell? ⟨b, o + i * 5 + 4, none⟩ = some u ∧ Lbl w l[i].2.2.2.2 u := by
  obtain ⟨p, c, e, h1, h2, h3⟩ := h
  unfold maxLen at h2
  rcases h3 with rfl | ⟨b, o, hp, h3⟩
  · exact ⟨0, 0, c, p, e, h1, by omega, fun h => absurd h (by simp), fun i h => absurd h (by simp)⟩
  · refine ⟨b, o, c, p, e, h1, by omega, fun _ => hp, fun i hi => ?_⟩
    obtain ⟨vs, ⟨u1, v1, e1, d1, ⟨u2, v2, e2, d2, ⟨u3, v3, e3, d3, ⟨u4, v4, e4, d4, ⟨u, d5, d6⟩⟩⟩⟩⟩, g2, g3⟩ := h3 i hi
    have d1' : u1 = [.int .i64 l[i].1] := d1
    have d2' : u2 = [.string l[i].2.1] := d2
    have d3' : u3 = [.bool l[i].2.2.1] := d3
    have d4' : u4 = [.int .i64 l[i].2.2.2.1] := d4
    subst d1' d2' d3' d4' d5 e4 e3 e2 e1
    exact ⟨u, by simpa using g3 0 _ rfl, by simpa using g3 1 _ rfl, by simpa using g3 2 _ rfl, by simpa using g3 3 _ rfl, by simpa using g3 4 _ rfl, d6⟩
/-- A slice that nobody looks into. -/
def anySl : Enc Unit := fun _ _ vs => ∃ p n c, vs = [.slice p n c]
theorem Rd.anySl {P : Program} {t e : TypeId} (ht : P.underlying t = some (.slice e)) : Rd P t anySl okAny szOne := by
  intro H enc w fuel cs x h
  rcases DataW.trod_slice ht h with ⟨rfl, rfl⟩ | ⟨a, len, cap, elems, rest, n, rfl, rfl, rfl, _⟩
  · exact ⟨(), ⟨_, _, _, rfl⟩, trivial, by simp [szOne, Rows.uptoBulk]⟩
  · exact ⟨(), ⟨_, _, _, rfl⟩, trivial, by simp [szOne, Rows.uptoBulk]⟩
/-- A program: chiefs, pairs, channels. -/
abbrev PrgA := List Txt × List (Txt × Txt) × List Chn × Unit
def prgA : Enc PrgA := Both (Sl txt 1) (Both (Sl (Both txt txt) 2) (Both (Sl chn 5) anySl))
def okPrgA : PrgA → Prop := okBoth (okList okTxt) (okBoth (okList (okBoth okTxt okTxt)) (okBoth (okList okChn) okAny))
theorem rdPrgA : Rd Tryd.prog 61 prgA okPrgA (szBoth (szList szTxt) (szBoth (szList (szBoth szTxt szTxt)) (szBoth (szList szChn) szOne))) :=
  Rd.struct (tot := 4) Tryd.underlying61 (by kernel_rfl) (Rdf.cons (k := 1) (o' := 1) rfl rfl (by kernel_rfl) rfl rdStrs (Rdf.cons (k := 1) (o' := 2) rfl rfl (by kernel_rfl) rfl rdPrs
    (Rdf.cons (k := 1) (o' := 3) rfl rfl (by kernel_rfl) rfl rdChns (Rdf.last (k := 1) rfl rfl (by kernel_rfl) (Rd.anySl Tryd.underlying59)))))
/-- A program as an argument. -/
theorem prgA_arg {H : Type} {enc : TypeId × Value → H} {w : World} {v : Value} {d : DataW H} {ps : List MemPlace} (hv : ∃ cs, v = .agg cs ∧ cs.size = 4) (h : DataW.Trod enc Tryd.prog w 0 (fun _ => true) true 61 v d ps) :
    ∃ (l : List Txt) (acts : List (Txt × Txt)) (chans : List Chn) (v1 v2 v3 : Value) (p4 : Option Addr) (n4 c4 : Nat), v = .agg #[v1, v2, v3, .slice p4 n4 c4] ∧ Strs w l v1 ∧ Prs w acts v2 ∧ Chns w chans v3 ∧ okList okTxt l ∧ okList (okBoth okTxt okTxt) acts ∧ okList okChn chans := by
  obtain ⟨fuel, hf⟩ := h
  obtain ⟨⟨l, acts, chans, _⟩, ⟨us, us', e1, ⟨v1, rfl, h1⟩, ⟨us2, us3, e2, ⟨v2, rfl, h2⟩, ⟨us4, us5, e3, ⟨v3, rfl, h3⟩, ⟨p, n, c, e4⟩⟩⟩⟩, ⟨g1, g2, g3, _⟩, _⟩ := rdPrgA H enc w fuel _ _ hf
  obtain ⟨cs, rfl, _⟩ := hv
  refine ⟨l, acts, chans, v1, v2, v3, p, n, c, ?_, h1, h2, h3, g1, g2, g3⟩
  subst e4 e3 e2
  congr 1
  apply Array.ext'
  simpa [Value.cells] using e1
/-- `[][]int`. -/
abbrev NumsL (w : World) (l : List (List Int)) (v : Value) : Prop := SliceOf (Sl num 1) 1 w l v
theorem rdNumsA : Rd Tryd.prog 70 (Sl num 1) (okList okNum) (szList szOne) := Rd.slice Tryd.underlying70 (by decide) (by kernel_rfl) (Rd.num Tryd.underlying3)
theorem rdNumsL : Rd Tryd.prog 62 (Sl (Sl num 1) 1) (okList (okList okNum)) (szList (szList szOne)) := Rd.slice Tryd.underlying62 (by decide) (by kernel_rfl) rdNumsA
theorem NumsL.stays {w w' : World} (hk : Keeps w w') {l : List (List Int)} {v : Value} (h : NumsL w l v) : NumsL w' l v := SliceOf.stays (Sl.stays (One.stays _) 1) hk h
theorem NumsL.cells {w : World} {l : List (List Int)} {v : Value} (h : NumsL w l v) :
    ∃ b o c p, v = .slice p l.length c ∧ l.length ≤ c ∧ c ≤ 9223372036854775807 ∧ (0 < l.length → p = some ⟨b, o, none⟩) ∧ ∀ (i : Nat) (h : i < l.length), ∃ u, w.cell? ⟨b, o + i, none⟩ = some u ∧ Nums w l[i] u := by
  obtain ⟨p, c, e, h1, h2, h3⟩ := h
  unfold maxLen at h2
  rcases h3 with rfl | ⟨b, o, hp, h3⟩
  · exact ⟨0, 0, c, p, e, h1, by omega, fun h => absurd h (by simp), fun i h => absurd h (by simp)⟩
  · refine ⟨b, o, c, p, e, h1, by omega, fun _ => hp, fun i hi => ?_⟩
    obtain ⟨vs, ⟨u, rfl, g1⟩, g2, g3⟩ := h3 i hi
    exact ⟨u, by simpa using g3 0 u rfl, g1⟩
end Go.Proofs.YtfbieagkhbmgjaaDoor
