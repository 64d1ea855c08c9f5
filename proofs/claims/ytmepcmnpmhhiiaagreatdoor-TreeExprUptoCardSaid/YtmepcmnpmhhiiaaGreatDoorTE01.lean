/-
  parse.list: something, and again something behind each sign; printed by pargen.py. Plain law: reading goes on, never back. The reader's labels and arguments. The reader's arguments: expressions in brackets. The reader's expressions: signs between, the same for each tightness. (parvgen.py prints the walk of the region that draws its order.)
-/
import Derived.Test.YtmepcmnpmhhiiaaGreatDoorTE00
import Derived.Maps.AppendAt
import Derived.Deep.RegionHeld3
namespace Go.Proofs.YtmepcmnpmhhiiaaGreatDoor
open Go.RowKit Go.Maps
set_option linter.unusedVariables false
set_option linter.unusedSimpArgs false

set_option maxHeartbeats 4000000 in
set_option maxRecDepth 100000 in
theorem listStr_calls (gb : Nat) {w : World} {B : Nat} {T : List Tok} {E : Int} {tv : Value} {k0 dp ns : Nat} (h : Rdr w B T E tv k0 dp ns) (one : Nat → Rs Txt) (most : Nat) (sign : Txt) (hm0 : 0 < most) (hm : most ≤ 200)
    (hone : ∀ (W : World) (k : Nat), Aside1 B w W → Rdr W B T E tv k dp ns → Calls Tryz.prog 132 #[.pointer (some ⟨B, 0, none⟩)] W (Does W B T E tv dp ns (fun _ x v => v = .string x) (one k))) :
    Calls Tryz.prog 134 #[.pointer (some ⟨B, 0, none⟩), .int .i64 most, .string sign, .func (.func 132) #[.pointer (some ⟨B, 0, none⟩)] #[]] w (Does w B T E tv dp ns (fun W l v => SliceOf txt 1 W l v) (listP T E one most sign k0)) := by
  obtain ⟨t0, hi, hz0, hz1, hz2⟩ := info_parts Tryz.info_stringP
  have eg : ∀ args w, (callFunc 132 args).run Tryz.prog w = .ok (.enter 132 args) w := enters_at Tryz.func132 (by kernel_rfl) rfl
  have HB : Hid (B < w.heap.size) := h.lt
  have HT := Lib.hid h.toks
  have HTAB := Lib.hid h.tab
  have HONE := Lib.hid hone
  have hst : Stays txt := One.stays _
  have HST := Lib.hid hst
  have h1 := hone w k0 (Aside1.refl _ _) h
  have HP : Hid (listP T E one most sign k0 = (one k0).bind fun x k' => listGo T E one most sign most [x] k') := rfl
  clear hone h hst
  cases hr : one k0 with
  | bad c a =>
    rw [hr] at h1 HP
    have H1 := Lib.hid h1
    clear h1 hr
    go_enter Tryz.func134, Tryz.ntmps134
    go_wp2_with (fail)
    refine H1.out.mono ?_
    rintro e w1 ⟨ha, rfl, hlf⟩
    have HA := Lib.hid ha
    have HLF := Lib.hid hlf
    clear hlf
    clear ha
    go_wp2_with (fail)
    rw [HP.out]
    exact ⟨rfl, HA.out, rfl, HLF.out⟩
  | ok x k1 =>
    rw [hr] at h1 HP
    have H1 := Lib.hid h1
    clear h1 hr
    go_enter Tryz.func134, Tryz.ntmps134
    go_wp2_with (fail)
    refine H1.out.mono ?_
    rintro e w1 ⟨ha, v1, rfl, hr1, hx⟩
    obtain rfl := hx
    have HXE : Hid (txt (since w.heap.size w1) x [.string x]) := rfl
    have HL := Lib.hid (LI.first (ks := 1) (et := 9) HST.out hr1 ha HXE.out rfl (by decide))
    obtain ⟨W2, eW⟩ : ∃ W2, w1.alloc (.cells #[.string x] 9) = W2 := ⟨_, rfl⟩
    have HL2 : Hid (LI txt 1 9 w W2 B T E tv dp ns (.slice (some ⟨w1.heap.size, 0, none⟩) 1 1) [x] k1) := by rw [← eW]; exact HL.out
    clear ha hr1 HL
    go_wp2_with (fail)
    go_loopg [9] most (fun f lv ws => ∃ (xs : List Txt) (k : Nat) (wo : World) (vv : Value), vv = lv ∧ wo = ws ∧ Hid (0 < f ∧ xs.length + f = most + 1) ∧ Hid (listP T E one most sign k0 = listGo T E one most sign f xs k) ∧ Hid (LI txt 1 9 w wo B T E tv dp ns vv xs k))
    case atStart => exact ⟨[x], k1, _, _, rfl, rfl, ⟨hm0, by simp; omega⟩, HP.out, HL2.out⟩
    case round =>
      clear HL2 H1 HP HXE
      obtain ⟨xs, k, wo, vv, rfl, rfl, HF, HG, HLI⟩ := hrel
      obtain ⟨p9, c9, rfl⟩ := HLI.out.slice
      obtain ⟨f, rfl⟩ : ∃ f, gk = f + 1 := ⟨gk - 1, by have := HF.out; omega⟩
      have HIS := Lib.hid (is_calls HLI.out.rdr sign)
      cases hs : tkIs T k sign with
      | false =>
        rw [hs] at HIS
        have HE : Hid (listP T E one most sign k0 = .ok xs k) := by
          unfold Hid; rw [HG.out]; unfold listGo; rw [if_neg (by simp [hs])]
        clear hs
        go_wp2_with (fail)
        refine HIS.out.mono ?_
        rintro e w3 ⟨rfl, hb3⟩
        have HL3 := Lib.hid (HLI.out.below HST.out HB.out hb3)
        clear hb3
        go_wp2_with (fail)
        go_ret
        rw [HE.out]
        exact ⟨HL3.out.aside, _, rfl, HL3.out.rdr, HL3.out.done HST.out⟩
      | true =>
        rw [hs] at HIS
        have HGO : Hid (listGo T E one most sign (f + 1) xs k = if xs.length = most then failP T E 2 k else (one (k + 1)).bind fun y k' => listGo T E one most sign f (xs ++ [y]) k') := by
          unfold Hid; rw [listGo, if_pos hs]
        have HMU : Hid (mustP T E sign k = .ok () (k + 1)) := by unfold Hid mustP; rw [if_pos hs]
        clear hs
        by_cases hml : xs.length = most
        · have HE : Hid (listP T E one most sign k0 = failP T E 2 k) := by unfold Hid; rw [HG.out, HGO.out, if_pos hml]
          have hml' : (xs.length : Int) = (most : Int) := by omega
          clear hml
          go_wp2_with (fail)
          refine HIS.out.mono ?_
          rintro e w3 ⟨rfl, hb3⟩
          have HL3 := Lib.hid (HLI.out.below HST.out HB.out hb3)
          have HFA := Lib.hid (fail_calls HL3.out.rdr 2)
          clear hb3
          go_wp2_with (fail)
          refine HFA.out.mono ?_
          rintro e w4 ⟨rfl, hb4⟩
          have HA4 := Lib.hid (HL3.out.aside.trans (aside_below hb4))
          have HLF := Lib.hid (HL3.out.rdr.below hb4).left
          clear hb4
          go_wp2_with (fail)
          rw [HE.out]
          exact ⟨rfl, HA4.out, rfl, HLF.out⟩
        · have HNX : Hid (listP T E one most sign k0 = (one (k + 1)).bind fun y k' => listGo T E one most sign f (xs ++ [y]) k') := by unfold Hid; rw [HG.out, HGO.out, if_neg hml]
          have hml' : ¬ (xs.length : Int) = (most : Int) := by omega
          have HLT : Hid (xs.length < most) := by have := HF.out; unfold Hid; omega
          clear hml
          go_wp2_with (fail)
          refine HIS.out.mono ?_
          rintro e w3 ⟨rfl, hb3⟩
          have HL3 := Lib.hid (HLI.out.below HST.out HB.out hb3)
          have HMC := Lib.hid (must_calls HL3.out.rdr sign)
          rw [HMU.out] at HMC
          clear hb3
          go_wp2_with (fail)
          refine HMC.out.mono ?_
          rintro e w4 ⟨ha4, v4, rfl, hr4, rfl⟩
          have HL4 := Lib.hid (HL3.out.step HST.out HB.out ha4 hr4)
          have hcall := HONE.out w4 (k + 1) HL4.out.aside hr4
          clear ha4 hr4
          cases hry : one (k + 1) with
          | bad c a =>
            rw [hry] at hcall HNX
            have HCA := Lib.hid hcall
            clear hcall hry
            go_wp2_with (fail)
            refine HCA.out.mono ?_
            rintro e w5 ⟨ha5, rfl, hlf⟩
            have HLF := Lib.hid hlf
            clear hlf
            have HA5 := Lib.hid (HL4.out.aside.trans ha5)
            clear ha5
            go_wp2_with (fail)
            rw [HNX.out]
            exact ⟨rfl, HA5.out, rfl, HLF.out⟩
          | ok y k2 =>
            rw [hry] at hcall HNX
            have HCA := Lib.hid hcall
            clear hcall hry
            go_wp2_with (fail)
            refine HCA.out.mono ?_
            rintro e w5 ⟨ha5, v5, rfl, hr5, hx⟩
            obtain rfl := hx
            have HXE : Hid (txt (since w4.heap.size w5) y [.string y]) := rfl
            have HL5 := Lib.hid (HL4.out.step HST.out HB.out ha5 hr5)
            have HSZ : Hid (w.heap.size ≤ w4.heap.size) := HL4.out.aside.size
            have HOW4 : Hid (∀ g, (Value.slice p9 xs.length c9).ownBlock = some g → w.heap.size ≤ g ∧ g < w4.heap.size) := fun g hg => by
              obtain ⟨vals, q1, _⟩ := HL4.out.own
              exact q1.lt g hg
            obtain ⟨vals, hown5, hrows5⟩ := HL5.out.own
            have HROWS := Lib.hid hrows5
            have hsz5 := HL5.out.aside.size
            have hlm := HLT.out
            clear ha5 hr5 hrows5
            obtain ⟨W6, eW6⟩ : ∃ W6, w5.alloc (.cells #[.string y] 9) = W6 := ⟨_, rfl⟩
            obtain ⟨z6, hW6, m6⟩ := boxes1 eW6
            have hown6 : W6.ownsRow w.heap.size 9 1 (.slice p9 xs.length c9) xs.length vals := own_below hown5 hW6
            have HL6 := Lib.hid (HL5.out.below HST.out HB.out hW6)
            have HROW6 : Hid (Rows txt 1 (hide (inList w.heap.size (.slice p9 xs.length c9)) W6) xs vals) := Rows.stays HST.out (keeps_hide hW6.size fun b hb hp => ⟨hp, hW6.block b hb⟩) HROWS.out
            have HXE6 : Hid (txt (since w4.heap.size W6) y [.string y]) := HST.out _ _ _ _ (keeps_hide hW6.size fun b hb hp => ⟨hp, hW6.block b hb⟩) HXE.out
            have hsz6 : w.heap.size ≤ W6.heap.size := by omega
            clear hown5 z6 hW6
            go_wp2_with (at_builtin; refine wpList_append_own_at _ rfl _ _ 52 rfl w.heap.size 9 t0 (.string ⟨#[]⟩) 1 16 Tryz.underlying52 hi hz0 hz1 hz2 rfl (by decide) _ _ _ rfl hown6 ⟨w5.heap.size, 0, none⟩ 1 1 [.string y] rfl rfl ?c1 ?c2 ?c3 ?c4 ?c5 ?_)
            case c1 =>
              intro i u hj
              rw [Go.WideShapes.add_plain, Nat.zero_add, m6 i]
              simpa using hj
            case c2 => intro u hu; simp at hu; first | (subst hu; rfl) | (rcases hu with hu | hu <;> subst hu <;> rfl) | (rcases hu with hu | hu | hu | hu | hu | hu | hu <;> subst hu <;> rfl)
            case c3 => unfold maxLen; omega
            case c4 => omega
            case c5 => exact hsz6
            · intro v7 w7 hown7 hg7 _ hb7
              have HN : Hid (LI txt 1 9 w w7 B T E tv dp ns v7 (xs ++ [y]) k2) := HL6.out.push HST.out HB.out HT.out HTAB.out HROW6.out HXE6.out rfl HSZ.out HOW4.out hown7 hg7 hb7
              clear hown7 hg7 hb7 hown6 m6
              go_wp2_with (fail)
              go_roundg f
              case measure => omega
              case rel => exact ⟨xs ++ [y], k2, _, _, rfl, rfl, ⟨by have := HF.out; have := HLT.out; omega, by have := HF.out; simp; omega⟩, HNX.out, HN.out⟩

set_option maxHeartbeats 4000000 in
set_option maxRecDepth 100000 in
theorem listPol_calls (gb : Nat) {w : World} {B : Nat} {T : List Tok} {E : Int} {tv : Value} {k0 dp ns : Nat} (h : Rdr w B T E tv k0 dp ns) (one : Nat → Rs Pol) (most : Nat) (sign : Txt) (hm0 : 0 < most) (hm : most ≤ 200)
    (hone : ∀ (W : World) (k : Nat), Aside1 B w W → Rdr W B T E tv k dp ns → Calls Tryz.prog 131 #[.pointer (some ⟨gb, 0, none⟩)] W (Does W B T E tv dp ns PolIs (one k))) :
    Calls Tryz.prog 130 #[.pointer (some ⟨B, 0, none⟩), .int .i64 most, .string sign, .func (.func 131) #[] #[.pointer (some ⟨gb, 0, none⟩)]] w (Does w B T E tv dp ns (fun W l v => SliceOf pol 2 W l v) (listP T E one most sign k0)) := by
  obtain ⟨t0, hi, hz0, hz1, hz2⟩ := info_parts Tryz.info_policyP
  have eg : ∀ args w, (callFunc 131 args).run Tryz.prog w = .ok (.enter 131 args) w := enters_at Tryz.func131 (by kernel_rfl) rfl
  have HB : Hid (B < w.heap.size) := h.lt
  have HT := Lib.hid h.toks
  have HTAB := Lib.hid h.tab
  have HONE := Lib.hid hone
  have hst : Stays pol := pol_stays
  have HST := Lib.hid hst
  have h1 := hone w k0 (Aside1.refl _ _) h
  have HP : Hid (listP T E one most sign k0 = (one k0).bind fun x k' => listGo T E one most sign most [x] k') := rfl
  clear hone h hst
  cases hr : one k0 with
  | bad c a =>
    rw [hr] at h1 HP
    have H1 := Lib.hid h1
    clear h1 hr
    go_enter Tryz.func130, Tryz.ntmps130
    go_wp2_with (fail)
    refine H1.out.mono ?_
    rintro e w1 ⟨ha, rfl, hlf⟩
    have HA := Lib.hid ha
    have HLF := Lib.hid hlf
    clear hlf
    clear ha
    go_wp2_with (fail)
    rw [HP.out]
    exact ⟨rfl, HA.out, rfl, HLF.out⟩
  | ok x k1 =>
    rw [hr] at h1 HP
    have H1 := Lib.hid h1
    clear h1 hr
    go_enter Tryz.func130, Tryz.ntmps130
    go_wp2_with (fail)
    refine H1.out.mono ?_
    rintro e w1 ⟨ha, v1, rfl, hr1, hx⟩
    obtain ⟨vr, rfl, hvr⟩ := hx
    obtain ⟨_, _, cr, pr, rfl, _⟩ := hvr.cells
    have HXE : Hid (pol (since w.heap.size w1) x [.string x.1, .slice pr x.2.length cr]) := ⟨[.string x.1], [.slice pr x.2.length cr], rfl, rfl, ⟨_, rfl, hvr⟩⟩
    clear hvr
    have HL := Lib.hid (LI.first (ks := 2) (et := 77) HST.out hr1 ha HXE.out rfl (by decide))
    obtain ⟨W2, eW⟩ : ∃ W2, w1.alloc (.cells #[.string x.1, .slice pr x.2.length cr] 77) = W2 := ⟨_, rfl⟩
    have HL2 : Hid (LI pol 2 77 w W2 B T E tv dp ns (.slice (some ⟨w1.heap.size, 0, none⟩) 1 1) [x] k1) := by rw [← eW]; exact HL.out
    clear ha hr1 HL
    go_wp2_with (fail)
    go_loopg [9] most (fun f lv ws => ∃ (xs : List Pol) (k : Nat) (wo : World) (vv : Value), vv = lv ∧ wo = ws ∧ Hid (0 < f ∧ xs.length + f = most + 1) ∧ Hid (listP T E one most sign k0 = listGo T E one most sign f xs k) ∧ Hid (LI pol 2 77 w wo B T E tv dp ns vv xs k))
    case atStart => exact ⟨[x], k1, _, _, rfl, rfl, ⟨hm0, by simp; omega⟩, HP.out, HL2.out⟩
    case round =>
      clear HL2 H1 HP HXE
      obtain ⟨xs, k, wo, vv, rfl, rfl, HF, HG, HLI⟩ := hrel
      obtain ⟨p9, c9, rfl⟩ := HLI.out.slice
      obtain ⟨f, rfl⟩ : ∃ f, gk = f + 1 := ⟨gk - 1, by have := HF.out; omega⟩
      have HIS := Lib.hid (is_calls HLI.out.rdr sign)
      cases hs : tkIs T k sign with
      | false =>
        rw [hs] at HIS
        have HE : Hid (listP T E one most sign k0 = .ok xs k) := by
          unfold Hid; rw [HG.out]; unfold listGo; rw [if_neg (by simp [hs])]
        clear hs
        go_wp2_with (fail)
        refine HIS.out.mono ?_
        rintro e w3 ⟨rfl, hb3⟩
        have HL3 := Lib.hid (HLI.out.below HST.out HB.out hb3)
        clear hb3
        go_wp2_with (fail)
        go_ret
        rw [HE.out]
        exact ⟨HL3.out.aside, _, rfl, HL3.out.rdr, HL3.out.done HST.out⟩
      | true =>
        rw [hs] at HIS
        have HGO : Hid (listGo T E one most sign (f + 1) xs k = if xs.length = most then failP T E 2 k else (one (k + 1)).bind fun y k' => listGo T E one most sign f (xs ++ [y]) k') := by
          unfold Hid; rw [listGo, if_pos hs]
        have HMU : Hid (mustP T E sign k = .ok () (k + 1)) := by unfold Hid mustP; rw [if_pos hs]
        clear hs
        by_cases hml : xs.length = most
        · have HE : Hid (listP T E one most sign k0 = failP T E 2 k) := by unfold Hid; rw [HG.out, HGO.out, if_pos hml]
          have hml' : (xs.length : Int) = (most : Int) := by omega
          clear hml
          go_wp2_with (fail)
          refine HIS.out.mono ?_
          rintro e w3 ⟨rfl, hb3⟩
          have HL3 := Lib.hid (HLI.out.below HST.out HB.out hb3)
          have HFA := Lib.hid (fail_calls HL3.out.rdr 2)
          clear hb3
          go_wp2_with (fail)
          refine HFA.out.mono ?_
          rintro e w4 ⟨rfl, hb4⟩
          have HA4 := Lib.hid (HL3.out.aside.trans (aside_below hb4))
          have HLF := Lib.hid (HL3.out.rdr.below hb4).left
          clear hb4
          go_wp2_with (fail)
          rw [HE.out]
          exact ⟨rfl, HA4.out, rfl, HLF.out⟩
        · have HNX : Hid (listP T E one most sign k0 = (one (k + 1)).bind fun y k' => listGo T E one most sign f (xs ++ [y]) k') := by unfold Hid; rw [HG.out, HGO.out, if_neg hml]
          have hml' : ¬ (xs.length : Int) = (most : Int) := by omega
          have HLT : Hid (xs.length < most) := by have := HF.out; unfold Hid; omega
          clear hml
          go_wp2_with (fail)
          refine HIS.out.mono ?_
          rintro e w3 ⟨rfl, hb3⟩
          have HL3 := Lib.hid (HLI.out.below HST.out HB.out hb3)
          have HMC := Lib.hid (must_calls HL3.out.rdr sign)
          rw [HMU.out] at HMC
          clear hb3
          go_wp2_with (fail)
          refine HMC.out.mono ?_
          rintro e w4 ⟨ha4, v4, rfl, hr4, rfl⟩
          have HL4 := Lib.hid (HL3.out.step HST.out HB.out ha4 hr4)
          have hcall := HONE.out w4 (k + 1) HL4.out.aside hr4
          clear ha4 hr4
          cases hry : one (k + 1) with
          | bad c a =>
            rw [hry] at hcall HNX
            have HCA := Lib.hid hcall
            clear hcall hry
            go_wp2_with (fail)
            refine HCA.out.mono ?_
            rintro e w5 ⟨ha5, rfl, hlf⟩
            have HLF := Lib.hid hlf
            clear hlf
            have HA5 := Lib.hid (HL4.out.aside.trans ha5)
            clear ha5
            go_wp2_with (fail)
            rw [HNX.out]
            exact ⟨rfl, HA5.out, rfl, HLF.out⟩
          | ok y k2 =>
            rw [hry] at hcall HNX
            have HCA := Lib.hid hcall
            clear hcall hry
            go_wp2_with (fail)
            refine HCA.out.mono ?_
            rintro e w5 ⟨ha5, v5, rfl, hr5, hx⟩
            obtain ⟨vr2, rfl, hvr⟩ := hx
            obtain ⟨_, _, cs, ps, rfl, _⟩ := hvr.cells
            have HXE : Hid (pol (since w4.heap.size w5) y [.string y.1, .slice ps y.2.length cs]) := ⟨[.string y.1], [.slice ps y.2.length cs], rfl, rfl, ⟨_, rfl, hvr⟩⟩
            clear hvr
            have HL5 := Lib.hid (HL4.out.step HST.out HB.out ha5 hr5)
            have HSZ : Hid (w.heap.size ≤ w4.heap.size) := HL4.out.aside.size
            have HOW4 : Hid (∀ g, (Value.slice p9 xs.length c9).ownBlock = some g → w.heap.size ≤ g ∧ g < w4.heap.size) := fun g hg => by
              obtain ⟨vals, q1, _⟩ := HL4.out.own
              exact q1.lt g hg
            obtain ⟨vals, hown5, hrows5⟩ := HL5.out.own
            have HROWS := Lib.hid hrows5
            have hsz5 := HL5.out.aside.size
            have hlm := HLT.out
            clear ha5 hr5 hrows5
            obtain ⟨W6, eW6⟩ : ∃ W6, w5.alloc (.cells #[.string y.1, .slice ps y.2.length cs] 77) = W6 := ⟨_, rfl⟩
            obtain ⟨z6, hW6, m6⟩ := boxes1 eW6
            have hown6 : W6.ownsRow w.heap.size 77 2 (.slice p9 xs.length c9) xs.length vals := own_below hown5 hW6
            have HL6 := Lib.hid (HL5.out.below HST.out HB.out hW6)
            have HROW6 : Hid (Rows pol 2 (hide (inList w.heap.size (.slice p9 xs.length c9)) W6) xs vals) := Rows.stays HST.out (keeps_hide hW6.size fun b hb hp => ⟨hp, hW6.block b hb⟩) HROWS.out
            have HXE6 : Hid (pol (since w4.heap.size W6) y [.string y.1, .slice ps y.2.length cs]) := HST.out _ _ _ _ (keeps_hide hW6.size fun b hb hp => ⟨hp, hW6.block b hb⟩) HXE.out
            have hsz6 : w.heap.size ≤ W6.heap.size := by omega
            clear hown5 z6 hW6
            go_wp2_with (at_builtin; refine wpList_append_own_at _ rfl _ _ 22 rfl w.heap.size 77 t0 (.agg #[.string ⟨#[]⟩, .slice none 0 0]) 2 40 Tryz.underlying22 hi hz0 hz1 hz2 rfl (by decide) _ _ _ rfl hown6 ⟨w5.heap.size, 0, none⟩ 1 1 [.string y.1, .slice ps y.2.length cs] rfl rfl ?c1 ?c2 ?c3 ?c4 ?c5 ?_)
            case c1 =>
              intro i u hj
              rw [Go.WideShapes.add_plain, Nat.zero_add, m6 i]
              simpa using hj
            case c2 => intro u hu; simp at hu; first | (subst hu; rfl) | (rcases hu with hu | hu <;> subst hu <;> rfl) | (rcases hu with hu | hu | hu | hu | hu | hu | hu <;> subst hu <;> rfl)
            case c3 => unfold maxLen; omega
            case c4 => omega
            case c5 => exact hsz6
            · intro v7 w7 hown7 hg7 _ hb7
              have HN : Hid (LI pol 2 77 w w7 B T E tv dp ns v7 (xs ++ [y]) k2) := HL6.out.push HST.out HB.out HT.out HTAB.out HROW6.out HXE6.out rfl HSZ.out HOW4.out hown7 hg7 hb7
              clear hown7 hg7 hb7 hown6 m6
              go_wp2_with (fail)
              go_roundg f
              case measure => omega
              case rel => exact ⟨xs ++ [y], k2, _, _, rfl, rfl, ⟨by have := HF.out; have := HLT.out; omega, by have := HF.out; simp; omega⟩, HNX.out, HN.out⟩

set_option maxHeartbeats 4000000 in
set_option maxRecDepth 100000 in
theorem listEx_calls (gb : Nat) {w : World} {B : Nat} {T : List Tok} {E : Int} {tv : Value} {k0 dp ns : Nat} (h : Rdr w B T E tv k0 dp ns) (one : Nat → Rs Ex) (most : Nat) (sign : Txt) (hm0 : 0 < most) (hm : most ≤ 200)
    (hone : ∀ (W : World) (k : Nat), Aside1 B w W → Rdr W B T E tv k dp ns → Calls Tryz.prog 221 #[.pointer (some ⟨gb, 0, none⟩)] W (Does W B T E tv dp ns ExIs (one k))) :
    Calls Tryz.prog 220 #[.pointer (some ⟨B, 0, none⟩), .int .i64 most, .string sign, .func (.func 221) #[] #[.pointer (some ⟨gb, 0, none⟩)]] w (Does w B T E tv dp ns (fun W l v => SliceOf exE 7 W l v) (listP T E one most sign k0)) := by
  obtain ⟨t0, hi, hz0, hz1, hz2⟩ := info_parts Tryz.info_exprP
  have eg : ∀ args w, (callFunc 221 args).run Tryz.prog w = .ok (.enter 221 args) w := enters_at Tryz.func221 (by kernel_rfl) rfl
  have HB : Hid (B < w.heap.size) := h.lt
  have HT := Lib.hid h.toks
  have HTAB := Lib.hid h.tab
  have HONE := Lib.hid hone
  have hst : Stays exE := exE_stays
  have HST := Lib.hid hst
  have h1 := hone w k0 (Aside1.refl _ _) h
  have HP : Hid (listP T E one most sign k0 = (one k0).bind fun x k' => listGo T E one most sign most [x] k') := rfl
  clear hone h hst
  cases hr : one k0 with
  | bad c a =>
    rw [hr] at h1 HP
    have H1 := Lib.hid h1
    clear h1 hr
    go_enter Tryz.func220, Tryz.ntmps220
    go_wp2_with (fail)
    refine H1.out.mono ?_
    rintro e w1 ⟨ha, rfl, hlf⟩
    have HA := Lib.hid ha
    have HLF := Lib.hid hlf
    clear hlf
    clear ha
    go_wp2_with (fail)
    rw [HP.out]
    exact ⟨rfl, HA.out, rfl, HLF.out⟩
  | ok x k1 =>
    rw [hr] at h1 HP
    have H1 := Lib.hid h1
    clear h1 hr
    go_enter Tryz.func220, Tryz.ntmps220
    go_wp2_with (fail)
    refine H1.out.mono ?_
    rintro e w1 ⟨ha, v1, rfl, hr1, hx⟩
    obtain ⟨vl, va, rfl, hvl, hva⟩ := hx
    have hxe := (show ExIs (since w.heap.size w1) x _ from ⟨vl, va, rfl, hvl, hva⟩).row
    obtain ⟨_, _, e9, hxe⟩ := hxe
    simp only [Value.agg.injEq] at e9
    obtain ⟨rfl, rfl⟩ : _ = vl ∧ _ = va := by simp at e9; exact ⟨e9.1.symm, e9.2.symm⟩
    obtain ⟨pl, cl, rfl, _⟩ := hvl
    obtain ⟨pa, ca, rfl, _⟩ := hva
    have HXE := Lib.hid hxe
    clear hxe e9
    have HL := Lib.hid (LI.first (ks := 7) (et := 26) HST.out hr1 ha HXE.out rfl (by decide))
    obtain ⟨W2, eW⟩ : ∃ W2, w1.alloc (.cells #[.int .i64 x.kind, .int .i64 x.at_, .int .i64 x.num, .int .i64 x.ty, .string x.name, .slice pl x.lab.length cl, .slice pa x.kids.length ca] 26) = W2 := ⟨_, rfl⟩
    have HL2 : Hid (LI exE 7 26 w W2 B T E tv dp ns (.slice (some ⟨w1.heap.size, 0, none⟩) 1 1) [x] k1) := by rw [← eW]; exact HL.out
    clear ha hr1 HL
    go_wp2_with (fail)
    go_loopg [9] most (fun f lv ws => ∃ (xs : List Ex) (k : Nat) (wo : World) (vv : Value), vv = lv ∧ wo = ws ∧ Hid (0 < f ∧ xs.length + f = most + 1) ∧ Hid (listP T E one most sign k0 = listGo T E one most sign f xs k) ∧ Hid (LI exE 7 26 w wo B T E tv dp ns vv xs k))
    case atStart => exact ⟨[x], k1, _, _, rfl, rfl, ⟨hm0, by simp; omega⟩, HP.out, HL2.out⟩
    case round =>
      clear HL2 H1 HP HXE
      obtain ⟨xs, k, wo, vv, rfl, rfl, HF, HG, HLI⟩ := hrel
      obtain ⟨p9, c9, rfl⟩ := HLI.out.slice
      obtain ⟨f, rfl⟩ : ∃ f, gk = f + 1 := ⟨gk - 1, by have := HF.out; omega⟩
      have HIS := Lib.hid (is_calls HLI.out.rdr sign)
      cases hs : tkIs T k sign with
      | false =>
        rw [hs] at HIS
        have HE : Hid (listP T E one most sign k0 = .ok xs k) := by
          unfold Hid; rw [HG.out]; unfold listGo; rw [if_neg (by simp [hs])]
        clear hs
        go_wp2_with (fail)
        refine HIS.out.mono ?_
        rintro e w3 ⟨rfl, hb3⟩
        have HL3 := Lib.hid (HLI.out.below HST.out HB.out hb3)
        clear hb3
        go_wp2_with (fail)
        go_ret
        rw [HE.out]
        exact ⟨HL3.out.aside, _, rfl, HL3.out.rdr, HL3.out.done HST.out⟩
      | true =>
        rw [hs] at HIS
        have HGO : Hid (listGo T E one most sign (f + 1) xs k = if xs.length = most then failP T E 2 k else (one (k + 1)).bind fun y k' => listGo T E one most sign f (xs ++ [y]) k') := by
          unfold Hid; rw [listGo, if_pos hs]
        have HMU : Hid (mustP T E sign k = .ok () (k + 1)) := by unfold Hid mustP; rw [if_pos hs]
        clear hs
        by_cases hml : xs.length = most
        · have HE : Hid (listP T E one most sign k0 = failP T E 2 k) := by unfold Hid; rw [HG.out, HGO.out, if_pos hml]
          have hml' : (xs.length : Int) = (most : Int) := by omega
          clear hml
          go_wp2_with (fail)
          refine HIS.out.mono ?_
          rintro e w3 ⟨rfl, hb3⟩
          have HL3 := Lib.hid (HLI.out.below HST.out HB.out hb3)
          have HFA := Lib.hid (fail_calls HL3.out.rdr 2)
          clear hb3
          go_wp2_with (fail)
          refine HFA.out.mono ?_
          rintro e w4 ⟨rfl, hb4⟩
          have HA4 := Lib.hid (HL3.out.aside.trans (aside_below hb4))
          have HLF := Lib.hid (HL3.out.rdr.below hb4).left
          clear hb4
          go_wp2_with (fail)
          rw [HE.out]
          exact ⟨rfl, HA4.out, rfl, HLF.out⟩
        · have HNX : Hid (listP T E one most sign k0 = (one (k + 1)).bind fun y k' => listGo T E one most sign f (xs ++ [y]) k') := by unfold Hid; rw [HG.out, HGO.out, if_neg hml]
          have hml' : ¬ (xs.length : Int) = (most : Int) := by omega
          have HLT : Hid (xs.length < most) := by have := HF.out; unfold Hid; omega
          clear hml
          go_wp2_with (fail)
          refine HIS.out.mono ?_
          rintro e w3 ⟨rfl, hb3⟩
          have HL3 := Lib.hid (HLI.out.below HST.out HB.out hb3)
          have HMC := Lib.hid (must_calls HL3.out.rdr sign)
          rw [HMU.out] at HMC
          clear hb3
          go_wp2_with (fail)
          refine HMC.out.mono ?_
          rintro e w4 ⟨ha4, v4, rfl, hr4, rfl⟩
          have HL4 := Lib.hid (HL3.out.step HST.out HB.out ha4 hr4)
          have hcall := HONE.out w4 (k + 1) HL4.out.aside hr4
          clear ha4 hr4
          cases hry : one (k + 1) with
          | bad c a =>
            rw [hry] at hcall HNX
            have HCA := Lib.hid hcall
            clear hcall hry
            go_wp2_with (fail)
            refine HCA.out.mono ?_
            rintro e w5 ⟨ha5, rfl, hlf⟩
            have HLF := Lib.hid hlf
            clear hlf
            have HA5 := Lib.hid (HL4.out.aside.trans ha5)
            clear ha5
            go_wp2_with (fail)
            rw [HNX.out]
            exact ⟨rfl, HA5.out, rfl, HLF.out⟩
          | ok y k2 =>
            rw [hry] at hcall HNX
            have HCA := Lib.hid hcall
            clear hcall hry
            go_wp2_with (fail)
            refine HCA.out.mono ?_
            rintro e w5 ⟨ha5, v5, rfl, hr5, hx⟩
            obtain ⟨vl, va, rfl, hvl, hva⟩ := hx
            have hxe := (show ExIs (since w4.heap.size w5) y _ from ⟨vl, va, rfl, hvl, hva⟩).row
            obtain ⟨_, _, e9, hxe⟩ := hxe
            obtain ⟨rfl, rfl⟩ : _ = vl ∧ _ = va := by simp at e9; exact ⟨e9.1.symm, e9.2.symm⟩
            obtain ⟨pm, cm, rfl, _⟩ := hvl
            obtain ⟨pn, cn, rfl, _⟩ := hva
            have HXE := Lib.hid hxe
            clear hxe e9
            have HL5 := Lib.hid (HL4.out.step HST.out HB.out ha5 hr5)
            have HSZ : Hid (w.heap.size ≤ w4.heap.size) := HL4.out.aside.size
            have HOW4 : Hid (∀ g, (Value.slice p9 xs.length c9).ownBlock = some g → w.heap.size ≤ g ∧ g < w4.heap.size) := fun g hg => by
              obtain ⟨vals, q1, _⟩ := HL4.out.own
              exact q1.lt g hg
            obtain ⟨vals, hown5, hrows5⟩ := HL5.out.own
            have HROWS := Lib.hid hrows5
            have hsz5 := HL5.out.aside.size
            have hlm := HLT.out
            clear ha5 hr5 hrows5
            obtain ⟨W6, eW6⟩ : ∃ W6, w5.alloc (.cells #[.int .i64 y.kind, .int .i64 y.at_, .int .i64 y.num, .int .i64 y.ty, .string y.name, .slice pm y.lab.length cm, .slice pn y.kids.length cn] 26) = W6 := ⟨_, rfl⟩
            obtain ⟨z6, hW6, m6⟩ := boxes1 eW6
            have hown6 : W6.ownsRow w.heap.size 26 7 (.slice p9 xs.length c9) xs.length vals := own_below hown5 hW6
            have HL6 := Lib.hid (HL5.out.below HST.out HB.out hW6)
            have HROW6 : Hid (Rows exE 7 (hide (inList w.heap.size (.slice p9 xs.length c9)) W6) xs vals) := Rows.stays HST.out (keeps_hide hW6.size fun b hb hp => ⟨hp, hW6.block b hb⟩) HROWS.out
            have HXE6 : Hid (exE (since w4.heap.size W6) y [.int .i64 y.kind, .int .i64 y.at_, .int .i64 y.num, .int .i64 y.ty, .string y.name, .slice pm y.lab.length cm, .slice pn y.kids.length cn]) := HST.out _ _ _ _ (keeps_hide hW6.size fun b hb hp => ⟨hp, hW6.block b hb⟩) HXE.out
            have hsz6 : w.heap.size ≤ W6.heap.size := by omega
            clear hown5 z6 hW6
            go_wp2_with (at_builtin; refine wpList_append_own_at _ rfl _ _ 24 rfl w.heap.size 26 t0 (.agg #[.int .i64 0, .int .i64 0, .int .i64 0, .int .i64 0, .string ⟨#[]⟩, .slice none 0 0, .slice none 0 0]) 7 96 Tryz.underlying24 hi hz0 hz1 hz2 rfl (by decide) _ _ _ rfl hown6 ⟨w5.heap.size, 0, none⟩ 1 1 [.int .i64 y.kind, .int .i64 y.at_, .int .i64 y.num, .int .i64 y.ty, .string y.name, .slice pm y.lab.length cm, .slice pn y.kids.length cn] rfl rfl ?c1 ?c2 ?c3 ?c4 ?c5 ?_)
            case c1 =>
              intro i u hj
              rw [Go.WideShapes.add_plain, Nat.zero_add, m6 i]
              simpa using hj
            case c2 => intro u hu; simp at hu; first | (subst hu; rfl) | (rcases hu with hu | hu <;> subst hu <;> rfl) | (rcases hu with hu | hu | hu | hu | hu | hu | hu <;> subst hu <;> rfl)
            case c3 => unfold maxLen; omega
            case c4 => omega
            case c5 => exact hsz6
            · intro v7 w7 hown7 hg7 _ hb7
              have HN : Hid (LI exE 7 26 w w7 B T E tv dp ns v7 (xs ++ [y]) k2) := HL6.out.push HST.out HB.out HT.out HTAB.out HROW6.out HXE6.out rfl HSZ.out HOW4.out hown7 hg7 hb7
              clear hown7 hg7 hb7 hown6 m6
              go_wp2_with (fail)
              go_roundg f
              case measure => omega
              case rel => exact ⟨xs ++ [y], k2, _, _, rfl, rfl, ⟨by have := HF.out; have := HLT.out; omega, by have := HF.out; simp; omega⟩, HNX.out, HN.out⟩
end Go.Proofs.YtmepcmnpmhhiiaaGreatDoor
namespace Go.Proofs.YtmepcmnpmhhiiaaGreatDoor
open Go.RowKit
set_option linter.unusedVariables false
set_option linter.unusedSimpArgs false

theorem bind_ok {α β : Type} {r : Rs α} {f : α → Nat → Rs β} {y : β} {k : Nat} (h : r.bind f = .ok y k) : ∃ x k', r = .ok x k' ∧ f x k' = .ok y k := by
  cases r with
  | ok x k' => exact ⟨x, k', rfl, h⟩
  | bad c a => cases h
/-- It goes on. -/
def Mono {α : Type} (p : Nat → Rs α) : Prop := ∀ k x k', p k = .ok x k' → k ≤ k'
section
variable {T : List Tok} {E : Int}
theorem mustP_ok {s : Txt} {k k' : Nat} {u : Unit} (h : mustP T E s k = .ok u k') : tkIs T k s = true ∧ k' = k + 1 := by
  unfold mustP at h
  split at h
  · rename_i h1
    cases h
    exact ⟨h1, rfl⟩
  · cases h
theorem nameP_ok {k k' : Nat} {x : Txt} (h : nameP T E k = .ok x k') : (tkNext T k).1 = 1 ∧ x = (tkNext T k).2.2 ∧ k' = k + 1 := by
  unfold nameP at h
  split at h
  · rename_i h1
    cases h
    exact ⟨h1, rfl, rfl⟩
  · cases h
theorem nameP_mono : Mono (nameP T E) := fun k x k' h => by
  have := (nameP_ok h).2.2
  omega
theorem listGo_mono {α : Type} {one : Nat → Rs α} (h1 : Mono one) (most : Nat) (sign : Txt) (f : Nat) : ∀ (l : List α) (k : Nat) (x : List α) (k' : Nat), listGo T E one most sign f l k = .ok x k' → k ≤ k' := by
  induction f with
  | zero => intro l k x k' h; cases h; exact Nat.le_refl _
  | succ f ih =>
    intro l k x k' h
    unfold listGo at h
    split at h
    · split at h
      · cases h
      · obtain ⟨y, k2, e1, e2⟩ := bind_ok h
        have := h1 _ _ _ e1
        have := ih _ _ _ _ e2
        omega
    · cases h; exact Nat.le_refl _
theorem listP_mono {α : Type} {one : Nat → Rs α} (h1 : Mono one) (most : Nat) (sign : Txt) : Mono (listP T E one most sign) := fun k x k' h => by
  obtain ⟨y, k2, e1, e2⟩ := bind_ok h
  have := h1 _ _ _ e1
  have := listGo_mono h1 _ _ _ _ _ _ _ e2
  omega
theorem polP_mono : Mono (polP T E) := fun k x k' h => by
  obtain ⟨o, k1, e1, h⟩ := bind_ok h
  obtain ⟨u, k2, e2, h⟩ := bind_ok h
  have := nameP_mono _ _ _ e1
  have := (mustP_ok e2).2
  split at h
  · obtain ⟨rs, k3, e3, h⟩ := bind_ok h
    have := listP_mono nameP_mono _ _ _ _ _ e3
    cases h
    omega
  · cases h
    omega
theorem labelP_mono : Mono (labelP T E) := fun k x k' h => by
  obtain ⟨u, k1, e1, h⟩ := bind_ok h
  have := (mustP_ok e1).2
  split at h
  · cases h
    omega
  · obtain ⟨l, k2, e2, h⟩ := bind_ok h
    obtain ⟨u3, k3, e3, h⟩ := bind_ok h
    have := listP_mono polP_mono _ _ _ _ _ e2
    have := (mustP_ok e3).2
    cases h
    omega
theorem opLoop_mono {one : Nat → Rs Ex} (h1 : Mono one) (level : Int) (f : Nat) : ∀ (x : Ex) (k : Nat) (y : Ex) (k' : Nat), opLoop T one level f x k = .ok y k' → k ≤ k' := by
  induction f with
  | zero => intro x k y k' h; cases h; exact Nat.le_refl _
  | succ f ih =>
    intro x k y k' h
    unfold opLoop at h
    split at h
    · cases h; exact Nat.le_refl _
    · obtain ⟨z, k2, e1, e2⟩ := bind_ok h
      have := h1 _ _ _ e1
      have := ih _ _ _ _ e2
      omega
theorem exprL_mono {prim : Nat → Rs Ex} (h1 : Mono prim) (j : Nat) : Mono (exprL T prim j) := by
  induction j with
  | zero => exact h1
  | succ j ih =>
    intro k x k' h
    obtain ⟨y, k2, e1, e2⟩ := bind_ok h
    have := ih _ _ _ e1
    have := opLoop_mono ih _ _ _ _ _ _ e2
    omega
theorem argsP_mono {prim : Nat → Rs Ex} (h1 : Mono prim) : Mono (argsP T E prim) := fun k x k' h => by
  obtain ⟨u, k1, e1, h⟩ := bind_ok h
  have := (mustP_ok e1).2
  split at h
  · cases h
    omega
  · obtain ⟨l, k2, e2, h⟩ := bind_ok h
    obtain ⟨u3, k3, e3, h⟩ := bind_ok h
    have := listP_mono (exprL_mono h1 5) _ _ _ _ _ e2
    have := (mustP_ok e3).2
    cases h
    omega
theorem primP_mono (d : Nat) : Mono (primP T E d) := by
  induction d with
  | zero => intro k x k' h; cases h
  | succ d ih =>
    intro k x k' h
    unfold primP at h
    split at h
    · cases h; omega
    split at h
    · cases h; omega
    split at h
    · cases h; omega
    split at h
    · split at h
      · obtain ⟨l, k1, e1, h⟩ := bind_ok h
        have := argsP_mono ih _ _ _ e1
        cases h
        omega
      · cases h; omega
    split at h
    · obtain ⟨l, k1, e1, h⟩ := bind_ok h
      have := ih _ _ _ e1
      cases h
      omega
    split at h
    · obtain ⟨l, k1, e1, h⟩ := bind_ok h
      obtain ⟨u, k2, e2, h⟩ := bind_ok h
      have := exprL_mono ih 5 _ _ _ e1
      have := (mustP_ok e2).2
      cases h
      omega
    split at h
    · obtain ⟨u1, k1, e1, h⟩ := bind_ok h
      obtain ⟨x2, k2, e2, h⟩ := bind_ok h
      obtain ⟨u3, k3, e3, h⟩ := bind_ok h
      obtain ⟨l4, k4, e4, h⟩ := bind_ok h
      obtain ⟨u5, k5, e5, h⟩ := bind_ok h
      have := (mustP_ok e1).2
      have := exprL_mono ih 5 _ _ _ e2
      have := (mustP_ok e3).2
      have := labelP_mono _ _ _ e4
      have := (mustP_ok e5).2
      cases h
      omega
    · cases h
end
end Go.Proofs.YtmepcmnpmhhiiaaGreatDoor
namespace Go.Proofs.YtmepcmnpmhhiiaaGreatDoor
open Go.RowKit Go.Maps
set_option linter.unusedVariables false
set_option linter.unusedSimpArgs false

theorem since_set {n b : Nat} (w : World) (o : Nat) (v : Value) (hb : b < n) : Keeps (since n w) (since n (w.setCell ⟨b, o, none⟩ v)) :=
  keeps_hide (by simp [World.setCell]) fun i hi hp => ⟨hp, Below.heap_setCell _ _ _ _ (by simp at hp ⊢; omega)⟩
section
variable {w w' w'' : World} {B : Nat} {T : List Tok} {E : Int} {tv : Value} {k dp ns k0 dp0 ns0 : Nat}
theorem Rdr.via (h0 : Rdr w B T E tv k0 dp0 ns0) (ha : Aside1 B w w'') (hb : w''.heap[B]? = w'.heap[B]?) (h' : Rdr w' B T E tv k dp ns) : Rdr w'' B T E tv k dp ns := ⟨by rw [hb]; exact h'.blk, h0.toks.stays ha.keeps, h0.tab.aside ha⟩
theorem aside_new (ha : Aside1 B w w') {b : Nat} (hb : w.heap.size ≤ b) (o : Nat) (v : Value) : Aside1 B w (w'.setCell ⟨b, o, none⟩ v) :=
  ⟨ha.os, ha.tape, ha.output, by have := ha.size; simp [World.setCell]; omega, fun i hi hne => (Below.heap_setCell _ _ _ _ (by simp; omega)).trans (ha.block i hi hne)⟩
theorem aside_alloc (ha : Aside1 B w w') (o : Obj) : Aside1 B w (w'.alloc o) := ha.trans (aside_below ((Below.refl _ _).alloc (Nat.le_refl _) o))
/-- A block that is known whole. -/
def Blk (w : World) (b : Nat) (cs : List Value) (t : TypeId) : Prop := w.heap[b]? = some (.cells cs.toArray t (0, 0))
variable {b : Nat} {cs : List Value} {t : TypeId}
theorem Blk.lt (h : Blk w b cs t) : b < w.heap.size := (Array.getElem?_eq_some_iff.1 h).1
theorem Blk.new (w : World) (cs : List Value) (t : TypeId) : Blk (w.alloc (.cells cs.toArray t)) w.heap.size cs t := heap_alloc_new _ _
theorem Blk.aside (h : Blk w b cs t) (ha : Aside1 B w w') (hne : b ≠ B) : Blk w' b cs t := (ha.block b h.lt (fun e => hne (by simpa using e))).trans h
theorem Blk.below (h : Blk w b cs t) (ha : Below w.heap.size w w') : Blk w' b cs t := (ha.block b h.lt).trans h
theorem Blk.cell (h : Blk w b cs t) (i : Nat) : w.cell? ⟨b, i, none⟩ = cs[i]? := by
  unfold Blk at h
  simp [World.cell?, h]
theorem Blk.fz (h : Blk w b cs t) (i : Nat) : w.frozen? ⟨b, i, none⟩ = false := by
  unfold Blk at h
  simp [World.frozen?, h]
theorem Blk.set (h : Blk w b cs t) (i : Nat) (v : Value) : Blk (w.setCell ⟨b, i, none⟩ v) b (cs.set i v) t := by
  unfold Blk at h ⊢
  simp [World.setCell, Array.getElem?_modify, h, Array.setIfInBounds]
  intro hi
  rw [List.set_eq_of_length_le hi]
theorem Blk.other (h : Blk w b cs t) {b' : Nat} (hne : b ≠ b') (i : Nat) (v : Value) : Blk (w.setCell ⟨b', i, none⟩ v) b cs t := (Below.heap_setCell _ _ _ _ (by simpa using hne)).trans h
theorem Blk.same (h : Blk w b cs t) {i : Nat} {v : Value} (hv : cs[i]? = some v) : w.setCell ⟨b, i, none⟩ v = w := by
  have h2 := h.set i v
  have e : cs.set i v = cs := by
    apply List.ext_getElem?
    intro j
    rw [List.getElem?_set]
    split
    · rename_i e
      subst e
      split
      · exact hv.symm
      · rename_i hi
        rw [List.getElem?_eq_none (by omega)]
    · rfl
  rw [e] at h2
  unfold Blk at h h2
  have hh : (w.setCell ⟨b, i, none⟩ v).heap = w.heap := by
    apply Array.ext_getElem?
    intro j
    by_cases hj : j = b
    · subst hj
      rw [h2, h]
    · exact Below.heap_setCell _ _ _ _ (by simpa using hj)
  unfold World.setCell at hh ⊢
  cases w
  simp_all
theorem Rdr.blk' (h : Rdr w B T E tv k dp ns) : Blk w B [tv, .int .i64 k, .int .i64 E, .int .i64 dp, .int .i64 ns] 164 := h.blk
theorem Left.aside_set (h : Left w B E tv) (hne : B ≠ b) (i : Nat) (v : Value) : Left (w.setCell ⟨b, i, none⟩ v) B E tv := by
  obtain ⟨k, a, c, h⟩ := h
  exact ⟨k, a, c, (Below.heap_setCell _ _ _ _ (by simpa using hne)).trans h⟩
end
section
variable {w : World} {B : Nat} {T : List Tok} {E : Int} {tv : Value} {k dp ns : Nat}
set_option maxHeartbeats 2000000 in
set_option maxRecDepth 100000 in
theorem pol_calls (h : Rdr w B T E tv k dp ns) {gb : Nat} (hg : w.cell? ⟨gb, 0, none⟩ = some (.pointer (some ⟨B, 0, none⟩))) (hne : gb ≠ B) :
    Calls Tryz.prog 131 #[.pointer (some ⟨gb, 0, none⟩)] w (Does w B T E tv dp ns PolIs (polP T E k)) := by
  have hmf : ∀ (fn : Fn) (first cap : Array Value) (w : World), (Instr.makeFunc fn first cap).run Tryz.prog w = .ok (.func fn first cap) w := fun _ _ _ _ => rfl
  have hfd : ∀ (a b : Int) (c : Txt) (w : World), (Instr.field 153 (.agg #[.int .i64 a, .int .i64 b, .string c]) 0).run Tryz.prog w = .ok (.int .i64 a) w := fun _ _ _ _ => rfl
  have H0 := Lib.hid h
  have HGL : Hid (gb < w.heap.size) := cell_lt hg
  have HG : Hid (∀ W, Aside1 B w W → W.cell? ⟨gb, 0, none⟩ = some (.pointer (some ⟨B, 0, none⟩))) := fun W ha => ha.cell hne hg
  have HP : Hid (polP T E k = (nameP T E k).bind fun o k1 => (mustP T E tColon k1).bind fun _ k2 =>
    if (tkNext T k2).1 = 1 then (listP T E (nameP T E) 6 tComma k2).bind fun rs k3 => .ok (o, rs) k3 else .ok (o, []) k2) := rfl
  obtain ⟨W1, eW⟩ : ∃ W1, w.alloc (.cells #[.string ⟨#[]⟩, .slice none 0 0] 77) = W1 := ⟨_, rfl⟩
  have hn1 : W1.heap.size = w.heap.size + 1 := by rw [← eW]; simp
  have HB1 : Hid (Blk W1 w.heap.size [.string ⟨#[]⟩, .slice none 0 0] 77) := by rw [← eW]; exact Blk.new _ _ _
  have hA1 : Aside1 B w W1 := by rw [← eW]; exact aside_alloc (Aside1.refl _ _) _
  have HA1 := Lib.hid hA1
  have HBN : Hid (w.heap.size ≠ B) := by have := h.lt; unfold Hid; omega
  have HN1 := Lib.hid hn1
  have g1 := HG.out W1 hA1
  have h1 := nameP_calls (h.via hA1 (by rw [← eW]; exact ((Below.refl w.heap.size w).alloc (Nat.le_refl _) _).block B h.lt) h)
  clear hg hne h hA1 hn1
  cases hr : nameP T E k with
  | bad c a =>
    rw [hr] at h1 HP
    have H1 := Lib.hid h1
    clear h1 hr
    go_enter Tryz.func131, Tryz.ntmps131
    go_wp2_with (fail)
    refine H1.out.mono ?_
    rintro e w2 ⟨ha, rfl, hlf⟩
    have HA := Lib.hid (HA1.out.trans ha)
    have HLF := Lib.hid hlf
    clear hlf ha
    go_wp2_with (fail)
    rw [HP.out]
    exact ⟨rfl, HA.out, rfl, HLF.out⟩
  | ok o k1 =>
    rw [hr] at h1 HP
    have H1 := Lib.hid h1
    clear h1 hr
    go_enter Tryz.func131, Tryz.ntmps131
    go_wp2_with (fail)
    refine H1.out.mono ?_
    rintro e w2 ⟨ha, v2, rfl, hr2, rfl⟩
    obtain ⟨W3, eW3⟩ : ∃ W3, w2.alloc (.cells #[.string o, .slice none 0 0] 77) = W3 := ⟨_, rfl⟩
    have hA2 := HA1.out.trans ha
    have hb3 : Below w2.heap.size w2 W3 := by rw [← eW3]; exact (Below.refl _ _).alloc (Nat.le_refl _) _
    have hA3 := hA2.trans (aside_below hb3)
    have HA3 := Lib.hid hA3
    have HN2 : Hid (w.heap.size < w2.heap.size) := by have h1 := ha.size; have h2 := HN1.out; unfold Hid; omega
    have HB3 : Hid (Blk W3 w.heap.size [.string ⟨#[]⟩, .slice none 0 0] 77) := ((HB1.out.aside ha HBN.out).below hb3)
    have HC3 : Hid (Blk W3 w2.heap.size [.string o, .slice none 0 0] 77) := by rw [← eW3]; exact Blk.new _ _ _
    have HBN2 : Hid (w2.heap.size ≠ B) := by have h1 := hr2.lt; unfold Hid; omega
    have HN3 : Hid (w2.heap.size < W3.heap.size) := by rw [← eW3]; unfold Hid; simp
    have hr3 := hr2.below hb3
    have h3 := must_calls hr3 tColon
    have g3 := HG.out W3 hA3
    have c31 := HC3.out.cell 1
    simp only [List.getElem?_cons_zero, List.getElem?_cons_succ] at c31
    have f31 := HC3.out.fz 1
    have eS3 := HC3.out.same (i := 1) (v := .slice none 0 0) rfl
    clear ha hr2 hb3 hA2 hA3 hr3 H1
    cases hm : mustP T E tColon k1 with
    | bad c a =>
      rw [hm] at h3
      have HPE : Hid (polP T E k = .bad c a) := by unfold Hid; rw [HP.out]; show (mustP T E tColon k1).bind _ = _; rw [hm]; rfl
      unfold tColon at h3
      have H3 := Lib.hid h3
      clear h3 hm
      go_wp2_with (fail)
      refine H3.out.mono ?_
      rintro e w4 ⟨ha, rfl, hlf⟩
      have HA := Lib.hid (HA3.out.trans ha)
      have HLF := Lib.hid hlf
      clear hlf ha
      go_wp2_with (fail)
      rw [HPE.out]
      exact ⟨rfl, HA.out, rfl, HLF.out⟩
    | ok u k2 =>
      rw [hm] at h3
      have HPE : Hid (polP T E k = if (tkNext T k2).1 = 1 then (listP T E (nameP T E) 6 tComma k2).bind fun rs k3 => .ok (o, rs) k3 else .ok (o, []) k2) := by unfold Hid; rw [HP.out]; show (mustP T E tColon k1).bind _ = _; rw [hm]; rfl
      unfold tColon at h3
      have H3 := Lib.hid h3
      clear h3 hm
      go_wp2_with (fail)
      refine H3.out.mono ?_
      rintro e w4 ⟨ha, v4, rfl, hr4, rfl⟩
      have HA4 := Lib.hid (HA3.out.trans ha)
      have HR4 := Lib.hid hr4
      have HB4 := Lib.hid (HB3.out.aside ha HBN.out)
      have HC4 := Lib.hid (HC3.out.aside ha HBN2.out)
      have HN4 : Hid (w2.heap.size < w4.heap.size) := by have h1 := ha.size; have h2 := HN3.out; unfold Hid; omega
      have HNX := Lib.hid (next_calls hr4)
      have g4 := HG.out w4 HA4.out
      clear ha hr4 H3 HA3 HB3 HC3 HN3 g1 g3 eW eW3 c31 f31 eS3
      go_wp2_with (fail)
      refine HNX.out.mono ?_
      rintro e w5 ⟨rfl, hb5⟩
      have HA5 := Lib.hid (HA4.out.trans (aside_below hb5))
      have HR5 := Lib.hid (HR4.out.below hb5)
      have HB5 := Lib.hid (HB4.out.below hb5)
      have HC5 := Lib.hid (HC4.out.below hb5)
      have HN5 : Hid (w2.heap.size < w5.heap.size) := by have h1 := hb5.size; have h2 := HN4.out; unfold Hid; omega
      have g5 := HG.out w5 HA5.out
      clear hb5 g4
      by_cases hk : (tkNext T k2).1 = 1
      · rw [if_pos hk] at HPE
        generalize (tkNext T k2).1 = tk at *
        have hkb : (tk == 1) = true := by simp [hk]
        clear hk
        have h6 := listStr_calls 0 HR5.out (nameP T E) 6 tComma (by decide) (by decide) (fun W k _ hr => nameP_calls hr)
        cases hl : listP T E (nameP T E) 6 tComma k2 with
        | bad c a =>
          rw [hl] at h6 HPE
          unfold tComma at h6
          have H6 := Lib.hid h6
          clear h6 hl
          go_wp2_with (fail)
          refine H6.out.mono ?_
          rintro e w6 ⟨ha, rfl, hlf⟩
          have HA := Lib.hid (HA5.out.trans ha)
          have HLF := Lib.hid hlf
          clear hlf ha
          go_wp2_with (fail)
          rw [HPE.out]
          exact ⟨rfl, HA.out, rfl, HLF.out⟩
        | ok rs k3 =>
          rw [hl] at h6 HPE
          unfold tComma at h6
          have H6 := Lib.hid h6
          clear h6 hl
          go_wp2_with (fail)
          refine H6.out.mono ?_
          rintro e w6 ⟨ha, v6, rfl, hr6, hs6⟩
          have hA6 := HA5.out.trans ha
          obtain ⟨W7, eW7⟩ : ∃ W7, w6.setCell ⟨w2.heap.size, 1, none⟩ v6 = W7 := ⟨_, rfl⟩
          have hC6 := HC5.out.aside ha HBN2.out
          have hB6 := HB5.out.aside ha HBN.out
          have c61 := hC6.cell 1
          simp only [List.getElem?_cons_zero, List.getElem?_cons_succ] at c61
          have f61 := hC6.fz 1
          have hC7 : Blk W7 w2.heap.size [.string o, v6] 77 := by rw [← eW7]; exact hC6.set 1 v6
          have hB7 : Blk W7 w.heap.size [.string ⟨#[]⟩, .slice none 0 0] 77 := by rw [← eW7]; exact hB6.other (Nat.ne_of_lt HN2.out) 1 v6
          have hA7 : Aside1 B w W7 := by rw [← eW7]; exact aside_new hA6 (Nat.le_of_lt HN2.out) _ _
          have hR7 : W7.heap[B]? = w6.heap[B]? := by rw [← eW7]; exact Below.heap_setCell _ _ _ _ (by simp; exact fun e => HBN2.out e.symm)
          have hS7 : Strs (since w5.heap.size W7) rs v6 := by
            refine SliceOf.stays (One.stays _) ?_ hs6
            rw [← eW7]
            exact since_set _ _ _ HN5.out
          have HNN : Hid (w.heap.size < w5.heap.size) := by have := HN5.out; have := HN2.out; unfold Hid; omega
          have b70 := hB7.cell 0
          have b71 := hB7.cell 1
          have c70 := hC7.cell 0
          have c71 := hC7.cell 1
          simp only [List.getElem?_cons_zero, List.getElem?_cons_succ] at b70 b71 c70 c71
          have g70 := hB7.fz 0
          have g71 := hB7.fz 1
          have HR6 := Lib.hid hr6
          have HA7 := Lib.hid hA7
          have HR7 := Lib.hid hR7
          have HB7 := Lib.hid hB7
          have HS7 := Lib.hid hS7
          obtain ⟨p6, n6, c6, e6⟩ : ∃ p6 n6 c6, v6 = .slice p6 n6 c6 := by obtain ⟨p, c, e, _⟩ := hs6; exact ⟨_, _, _, e⟩
          subst e6
          clear ha hr6 hs6 hA6 hC6 hB6 hC7 hB7 hA7 hR7 hS7 H6 HNX HR4 HB4 HC4 HA4 g5
          go_wp2_with (fail)
          refine bodyPost_ret (v := .agg #[.string o, .slice p6 n6 c6]) ?_ rfl ?_
          · have hq := (HB7.out.set 0 (.string o)).set 1 (.slice p6 n6 c6)
            have q0 := hq.cell 0
            have q1 := hq.cell 1
            simp only [List.set_cons_zero, List.set_cons_succ, List.getElem?_cons_zero, List.getElem?_cons_succ] at q0 q1
            simp [results, Tryz.results131, go_sem, q0, q1]
          · rw [HPE.out]
            have hA9 := aside_new (aside_new HA7.out (Nat.le_refl w.heap.size) 0 (.string o)) (Nat.le_refl w.heap.size) 1 (.slice p6 n6 c6)
            refine ⟨hA9, _, rfl, H0.out.via hA9 ?_ HR6.out, _, rfl, HS7.out.stays (((since_set _ _ _ HNN.out).trans (since_set _ _ _ HNN.out)).trans (since_mono _ (Nat.le_of_lt HNN.out)))⟩
            rw [← HR7.out]
            exact (Below.heap_setCell _ _ _ _ (by simp; exact fun e => HBN.out e.symm)).trans (Below.heap_setCell _ _ _ _ (by simp; exact fun e => HBN.out e.symm))
      · rw [if_neg hk] at HPE
        generalize (tkNext T k2).1 = tk at *
        have hkb : (tk == 1) = false := by simp [hk]
        have b70 := HB5.out.cell 0
        have b71 := HB5.out.cell 1
        have c70 := HC5.out.cell 0
        have c71 := HC5.out.cell 1
        simp only [List.getElem?_cons_zero, List.getElem?_cons_succ] at b70 b71 c70 c71
        have g70 := HB5.out.fz 0
        have g71 := HB5.out.fz 1
        clear hk g5
        go_wp2_with (fail)
        refine bodyPost_ret (v := .agg #[.string o, .slice none 0 0]) ?_ rfl ?_
        · have hq := (HB5.out.set 0 (.string o)).set 1 (.slice none 0 0)
          have q0 := hq.cell 0
          have q1 := hq.cell 1
          simp only [List.set_cons_zero, List.set_cons_succ, List.getElem?_cons_zero, List.getElem?_cons_succ] at q0 q1
          simp [results, Tryz.results131, go_sem, q0, q1]
        · rw [HPE.out]
          have hA9 := aside_new (aside_new HA5.out (Nat.le_refl w.heap.size) 0 (.string o)) (Nat.le_refl w.heap.size) 1 (.slice none 0 0)
          refine ⟨hA9, _, rfl, H0.out.via hA9 ?_ HR5.out, _, rfl, ⟨none, 0, rfl, Nat.le_refl _, by unfold maxLen; decide, .inl rfl⟩⟩
          exact (Below.heap_setCell _ _ _ _ (by simp; exact fun e => HBN.out e.symm)).trans (Below.heap_setCell _ _ _ _ (by simp; exact fun e => HBN.out e.symm))
set_option maxHeartbeats 2000000 in
set_option maxRecDepth 100000 in
theorem label_calls (h : Rdr w B T E tv k dp ns) : Calls Tryz.prog 49 #[.pointer (some ⟨B, 0, none⟩)] w (Does w B T E tv dp ns (fun W l v => SliceOf pol 2 W l v) (labelP T E k)) := by
  have hmf : ∀ (fn : Fn) (first cap : Array Value) (w : World), (Instr.makeFunc fn first cap).run Tryz.prog w = .ok (.func fn first cap) w := fun _ _ _ _ => rfl
  have HP : Hid (labelP T E k = (mustP T E tOpen k).bind fun _ k1 =>
    if tkIs T k1 tShut then .ok [] (k1 + 1) else (listP T E (polP T E) 200 tSemi k1).bind fun l k2 => (mustP T E tShut k2).bind fun _ k3 => .ok l k3) := rfl
  obtain ⟨W1, eW⟩ : ∃ W1, w.alloc (.cells #[.pointer (some ⟨B, 0, none⟩)] 87) = W1 := ⟨_, rfl⟩
  have hB1 : Blk W1 w.heap.size [.pointer (some ⟨B, 0, none⟩)] 87 := by rw [← eW]; exact Blk.new _ _ _
  have hb1 : Below w.heap.size w W1 := by rw [← eW]; exact (Below.refl _ _).alloc (Nat.le_refl _) _
  have HN : Hid (w.heap.size < W1.heap.size) := hB1.lt
  have HNE : Hid (w.heap.size ≠ B) := by have := h.lt; unfold Hid; omega
  have HG : Hid (∀ W, Aside1 B W1 W → W.cell? ⟨w.heap.size, 0, none⟩ = some (.pointer (some ⟨B, 0, none⟩))) := fun W ha => by
    have := (hB1.aside ha HNE.out).cell 0
    simpa using this
  have HBL : Hid (B < W1.heap.size) := by have := h.lt; have := HN.out; unfold Hid; omega
  have HA1 := Lib.hid (aside_below (B := B) hb1)
  have HR1 := Lib.hid (h.below hb1)
  have g1 := HG.out W1 (Aside1.refl _ _)
  have h1 := must_calls HR1.out tOpen
  have HX : Hid (∀ W (l : List Pol) v, SliceOf pol 2 (since W1.heap.size W) l v → SliceOf pol 2 (since w.heap.size W) l v) := fun W l v q => SliceOf.stays pol_stays (since_mono _ (Nat.le_of_lt HN.out)) q
  clear hB1 hb1 h
  cases hm : mustP T E tOpen k with
  | bad c a =>
    rw [hm] at h1
    have HPE : Hid (labelP T E k = .bad c a) := by unfold Hid; rw [HP.out, hm]; rfl
    unfold tOpen at h1
    have H1 := Lib.hid h1
    clear h1 hm
    go_enter Tryz.func49, Tryz.ntmps49
    go_wp2_with (fail)
    refine H1.out.mono ?_
    rintro e w2 ⟨ha, rfl, hlf⟩
    have HA := Lib.hid (HA1.out.trans ha)
    have HLF := Lib.hid hlf
    clear hlf ha
    go_wp2_with (fail)
    rw [HPE.out]
    exact ⟨rfl, HA.out, rfl, HLF.out⟩
  | ok u k1 =>
    rw [hm] at h1
    have HPE : Hid (labelP T E k = if tkIs T k1 tShut then .ok [] (k1 + 1) else (listP T E (polP T E) 200 tSemi k1).bind fun l k2 => (mustP T E tShut k2).bind fun _ k3 => .ok l k3) := by unfold Hid; rw [HP.out, hm]; rfl
    unfold tOpen at h1
    have H1 := Lib.hid h1
    clear h1 hm HP
    cases hs : tkIs T k1 tShut with
    | true =>
      rw [hs] at HPE
      go_enter Tryz.func49, Tryz.ntmps49
      go_wp2_with (fail)
      refine H1.out.mono ?_
      rintro e w2 ⟨ha, v2, rfl, hr2, rfl⟩
      have HA2 := Lib.hid ha
      have g2 := HG.out w2 ha
      have h2 := eat_yes hr2 tShut hs
      unfold tShut at h2
      have H2 := Lib.hid h2
      clear ha hr2 h2 hs g1 eW H1
      go_wp2_with (fail)
      refine H2.out.mono ?_
      rintro e w3 ⟨rfl, ha, hr3⟩
      have HA3 := Lib.hid (HA1.out.trans (HA2.out.trans ha))
      have HR3 := Lib.hid hr3
      clear ha hr3 g2
      go_wp2_with (fail)
      go_ret
      rw [HPE.out]
      exact ⟨HA3.out, _, rfl, HR3.out, ⟨none, 0, rfl, Nat.le_refl _, by unfold maxLen; decide, .inl rfl⟩⟩
    | false =>
      rw [hs] at HPE
      go_enter Tryz.func49, Tryz.ntmps49
      go_wp2_with (fail)
      refine H1.out.mono ?_
      rintro e w2 ⟨ha, v2, rfl, hr2, rfl⟩
      have HA2 := Lib.hid ha
      have g2 := HG.out w2 ha
      have h2 := eat_no hr2 tShut hs
      unfold tShut at h2
      have H2 := Lib.hid h2
      clear ha hr2 h2 hs g1 eW H1
      go_wp2_with (fail)
      refine H2.out.mono ?_
      rintro e w3 ⟨rfl, ha, hr3⟩
      have HA3 := Lib.hid (HA2.out.trans ha)
      have g3 := HG.out w3 HA3.out
      have h3 := listPol_calls w.heap.size hr3 (polP T E) 200 tSemi (by decide) (by decide) (fun W k ha hr => pol_calls hr (HG.out W (HA3.out.trans ha)) HNE.out)
      have HSZ3 : Hid (W1.heap.size ≤ w3.heap.size) := HA3.out.size
      clear ha hr3 g2 H2 HA2
      cases hl : listP T E (polP T E) 200 tSemi k1 with
      | bad c a =>
        rw [hl] at h3 HPE
        unfold tSemi at h3
        have H3 := Lib.hid h3
        clear h3 hl
        go_wp2_with (fail)
        refine H3.out.mono ?_
        rintro e w4 ⟨ha, rfl, hlf⟩
        have HA := Lib.hid (HA1.out.trans (HA3.out.trans ha))
        have HLF := Lib.hid hlf
        clear hlf ha
        go_wp2_with (fail)
        rw [HPE.out]
        exact ⟨rfl, HA.out, rfl, HLF.out⟩
      | ok l k2 =>
        rw [hl] at h3 HPE
        unfold tSemi at h3
        have H3 := Lib.hid h3
        clear h3 hl
        go_wp2_with (fail)
        refine H3.out.mono ?_
        rintro e w4 ⟨ha, v4, rfl, hr4, hs4⟩
        have HA4 := Lib.hid (HA3.out.trans ha)
        have HS4 : Hid (SliceOf pol 2 (since W1.heap.size w4) l v4) := SliceOf.stays pol_stays (since_mono _ HSZ3.out) hs4
        have g4 := HG.out w4 HA4.out
        have h4 := must_calls hr4 tShut
        obtain ⟨p4, n4, c4, rfl⟩ : ∃ p4 n4 c4, v4 = .slice p4 n4 c4 := by obtain ⟨p, c, e, _⟩ := hs4; exact ⟨_, _, _, e⟩
        clear ha hr4 hs4 g3 H3
        cases hm2 : mustP T E tShut k2 with
        | bad c a =>
          rw [hm2] at h4
          have HPF : Hid (labelP T E k = .bad c a) := by unfold Hid; rw [HPE.out]; show (mustP T E tShut k2).bind _ = _; rw [hm2]; rfl
          unfold tShut at h4
          have H4 := Lib.hid h4
          clear h4 hm2
          go_wp2_with (fail)
          refine H4.out.mono ?_
          rintro e w5 ⟨ha, rfl, hlf⟩
          have HA := Lib.hid (HA1.out.trans (HA4.out.trans ha))
          have HLF := Lib.hid hlf
          clear hlf ha
          go_wp2_with (fail)
          rw [HPF.out]
          exact ⟨rfl, HA.out, rfl, HLF.out⟩
        | ok u5 k3 =>
          rw [hm2] at h4
          have HPF : Hid (labelP T E k = .ok l k3) := by unfold Hid; rw [HPE.out]; show (mustP T E tShut k2).bind _ = _; rw [hm2]; rfl
          unfold tShut at h4
          have H4 := Lib.hid h4
          clear h4 hm2
          go_wp2_with (fail)
          refine H4.out.mono ?_
          rintro e w5 ⟨ha, v5, rfl, hr5, rfl⟩
          have HA := Lib.hid (HA1.out.trans (HA4.out.trans ha))
          have HR5 := Lib.hid hr5
          have HS5 := Lib.hid (SliceOf.stays pol_stays (since_aside ha HBL.out) HS4.out)
          clear ha hr5
          go_wp2_with (fail)
          go_ret
          rw [HPF.out]
          exact ⟨HA.out, _, rfl, HR5.out, HX.out _ _ _ HS5.out⟩
end
end Go.Proofs.YtmepcmnpmhhiiaaGreatDoor
namespace Go.Proofs.YtmepcmnpmhhiiaaGreatDoor
open Go.RowKit Go.Maps
set_option linter.unusedVariables false
set_option linter.unusedSimpArgs false

/-- Seven cells of a block are set. -/
def sev (w : World) (n : Nat) (a b c d e f g : Value) : World := ((((((w.setCell ⟨n, 0, none⟩ a).setCell ⟨n, 1, none⟩ b).setCell ⟨n, 2, none⟩ c).setCell ⟨n, 3, none⟩ d).setCell ⟨n, 4, none⟩ e).setCell ⟨n, 5, none⟩ f).setCell ⟨n, 6, none⟩ g
section
variable {w w0 : World} {n B m : Nat} {t : TypeId} {a b c d e f g a' b' c' d' e' f' g' : Value}
theorem Blk.sev (h : Blk w n [a', b', c', d', e', f', g'] t) : Blk (sev w n a b c d e f g) n [a, b, c, d, e, f, g] t := by
  have := ((((((h.set 0 a).set 1 b).set 2 c).set 3 d).set 4 e).set 5 f).set 6 g
  simpa [Proofs.YtmepcmnpmhhiiaaGreatDoor.sev] using this
theorem Blk.cells7 (h : Blk w n [a', b', c', d', e', f', g'] t) : w.cell? ⟨n, 0, none⟩ = some a' ∧ w.cell? ⟨n, 1, none⟩ = some b' ∧ w.cell? ⟨n, 2, none⟩ = some c' ∧ w.cell? ⟨n, 3, none⟩ = some d' ∧ w.cell? ⟨n, 4, none⟩ = some e' ∧ w.cell? ⟨n, 5, none⟩ = some f' ∧ w.cell? ⟨n, 6, none⟩ = some g' :=
  ⟨h.cell 0, h.cell 1, h.cell 2, h.cell 3, h.cell 4, h.cell 5, h.cell 6⟩
theorem Blk.fz7 (h : Blk w n [a', b', c', d', e', f', g'] t) : w.frozen? ⟨n, 0, none⟩ = false ∧ w.frozen? ⟨n, 1, none⟩ = false ∧ w.frozen? ⟨n, 2, none⟩ = false ∧ w.frozen? ⟨n, 3, none⟩ = false ∧ w.frozen? ⟨n, 4, none⟩ = false ∧ w.frozen? ⟨n, 5, none⟩ = false ∧ w.frozen? ⟨n, 6, none⟩ = false :=
  ⟨h.fz 0, h.fz 1, h.fz 2, h.fz 3, h.fz 4, h.fz 5, h.fz 6⟩
theorem since_sev (hn : n < m) : Keeps (since m w) (since m (sev w n a b c d e f g)) :=
  ((((((since_set _ _ _ hn).trans (since_set _ _ _ hn)).trans (since_set _ _ _ hn)).trans (since_set _ _ _ hn)).trans (since_set _ _ _ hn)).trans (since_set _ _ _ hn)).trans (since_set _ _ _ hn)
theorem aside_sev (ha : Aside1 B w0 w) (hn : w0.heap.size ≤ n) : Aside1 B w0 (sev w n a b c d e f g) :=
  aside_new (aside_new (aside_new (aside_new (aside_new (aside_new (aside_new ha hn _ _) hn _ _) hn _ _) hn _ _) hn _ _) hn _ _) hn _ _
theorem sev_block (hn : n ≠ B) : (sev w n a b c d e f g).heap[B]? = w.heap[B]? := by
  have h : ∀ (W : World) (o : Nat) (v : Value), (W.setCell ⟨n, o, none⟩ v).heap[B]? = W.heap[B]? := fun W o v => Below.heap_setCell _ _ _ _ (fun e => hn (by simpa using e.symm))
  unfold sev
  rw [h, h, h, h, h, h, h]
theorem sev_size : (sev w n a b c d e f g).heap.size = w.heap.size := by simp [sev, World.setCell]
end
/-- An expression's zero: seven cells. -/
def zeroC : List Value := [.int .i64 0, .int .i64 0, .int .i64 0, .int .i64 0, .string ⟨#[]⟩, .slice none 0 0, .slice none 0 0]
/-- Arguments: things in brackets. -/
def argsQ (T : List Tok) (E : Int) (one : Nat → Rs Ex) (k : Nat) : Rs (List Ex) := (mustP T E tLeft k).bind fun _ k1 =>
  if tkIs T k1 tRight then .ok [] (k1 + 1) else (listP T E one 4 tComma k1).bind fun l k2 => (mustP T E tRight k2).bind fun _ k3 => .ok l k3
theorem argsQ_eq (T : List Tok) (E : Int) (prim : Nat → Rs Ex) : argsP T E prim = argsQ T E (exprL T prim 5) := rfl
/-- What reads an expression. -/
def ReadsEx (B : Nat) (T : List Tok) (E : Int) (tv : Value) (dp ns : Nat) (fn : FuncId) (args : Array Value) (p : Nat → Rs Ex) : Prop :=
  ∀ (W : World) (k : Nat), Rdr W B T E tv k dp ns → Calls Tryz.prog fn args W (Does W B T E tv dp ns ExIs (p k))
section
variable {w : World} {B : Nat} {T : List Tok} {E : Int} {tv : Value} {k dp ns : Nat}
set_option maxHeartbeats 2000000 in
set_option maxRecDepth 100000 in
theorem args1_calls {p : Nat → Rs Ex} (hx : ReadsEx B T E tv dp ns 55 #[.pointer (some ⟨B, 0, none⟩), .int .i64 1] p) (h : Rdr w B T E tv k dp ns) {gb : Nat} (hg : w.cell? ⟨gb, 0, none⟩ = some (.pointer (some ⟨B, 0, none⟩))) (hne : gb ≠ B) :
    Calls Tryz.prog 221 #[.pointer (some ⟨gb, 0, none⟩)] w (Does w B T E tv dp ns ExIs (p k)) := by
  obtain ⟨W1, eW⟩ : ∃ W1, w.alloc (.cells #[.int .i64 0, .int .i64 0, .int .i64 0, .int .i64 0, .string ⟨#[]⟩, .slice none 0 0, .slice none 0 0] 26) = W1 := ⟨_, rfl⟩
  have hB1 : Blk W1 w.heap.size zeroC 26 := by rw [← eW]; exact Blk.new _ _ _
  have hb1 : Below w.heap.size w W1 := by rw [← eW]; exact (Below.refl _ _).alloc (Nat.le_refl _) _
  have HN : Hid (w.heap.size < W1.heap.size) := hB1.lt
  have HNE : Hid (w.heap.size ≠ B) := by have := h.lt; unfold Hid; omega
  have HB1 := Lib.hid hB1
  have HA1 := Lib.hid (aside_below (B := B) hb1)
  have g1 : W1.cell? ⟨gb, 0, none⟩ = some (.pointer (some ⟨B, 0, none⟩)) := HA1.out.cell hne hg
  have h1 := hx W1 k (h.below hb1)
  have H0 := Lib.hid h
  clear hB1 hb1 h hx hg hne
  cases hr : p k with
  | bad c a =>
    rw [hr] at h1
    have H1 := Lib.hid h1
    clear h1 hr
    go_enter Tryz.func221, Tryz.ntmps221
    go_wp2_with (fail)
    refine H1.out.mono ?_
    rintro e w2 ⟨ha, rfl, hlf⟩
    have HA := Lib.hid (HA1.out.trans ha)
    have HLF := Lib.hid hlf
    clear hlf ha
    go_wp2_with (fail)
    exact ⟨rfl, HA.out, rfl, HLF.out⟩
  | ok x k1 =>
    rw [hr] at h1
    have H1 := Lib.hid h1
    clear h1 hr
    go_enter Tryz.func221, Tryz.ntmps221
    go_wp2_with (fail)
    refine H1.out.mono ?_
    rintro e w2 ⟨ha, v2, rfl, hr2, hx2⟩
    have HA2 := Lib.hid (HA1.out.trans ha)
    have hB2 := HB1.out.aside ha HNE.out
    have HB2 := Lib.hid hB2
    have HR2 := Lib.hid hr2
    have HX2 := Lib.hid hx2
    obtain ⟨vl, va, rfl, hvl, hva⟩ := hx2
    obtain ⟨pl, cl, rfl, _⟩ := hvl
    obtain ⟨pa, ca, rfl, _⟩ := hva
    obtain ⟨c0, c1, c2, c3, c4, c5, c6⟩ := Blk.cells7 hB2
    obtain ⟨f0, f1, f2, f3, f4, f5, f6⟩ := Blk.fz7 hB2
    clear ha hB2 hr2 g1 H1 eW
    go_wp2_with (fail)
    refine bodyPost_ret (v := .agg #[.int .i64 x.kind, .int .i64 x.at_, .int .i64 x.num, .int .i64 x.ty, .string x.name, .slice pl x.lab.length cl, .slice pa x.kids.length ca]) ?_ rfl ?_
    · obtain ⟨q0, q1, q2, q3, q4, q5, q6⟩ := (Blk.sev (a := .int .i64 x.kind) (b := .int .i64 x.at_) (c := .int .i64 x.num) (d := .int .i64 x.ty) (e := .string x.name) (f := .slice pl x.lab.length cl) (g := .slice pa x.kids.length ca) HB2.out).cells7
      unfold sev at q0 q1 q2 q3 q4 q5 q6
      simp [results, Tryz.results221, go_sem, q0, q1, q2, q3, q4, q5, q6]
    · have hA9 := aside_sev (a := .int .i64 x.kind) (b := .int .i64 x.at_) (c := .int .i64 x.num) (d := .int .i64 x.ty) (e := .string x.name) (f := .slice pl x.lab.length cl) (g := .slice pa x.kids.length ca) HA2.out (Nat.le_refl _)
      exact ⟨hA9, _, rfl, H0.out.via hA9 (sev_block HNE.out) HR2.out, HX2.out.stays ((since_sev HN.out).trans (since_mono _ (Nat.le_of_lt HN.out)))⟩
set_option maxHeartbeats 2000000 in
set_option maxRecDepth 100000 in
theorem args_calls (h : Rdr w B T E tv k dp ns) {p : Nat → Rs Ex} (hx : ReadsEx B T E tv dp ns 55 #[.pointer (some ⟨B, 0, none⟩), .int .i64 1] p) : Calls Tryz.prog 189 #[.pointer (some ⟨B, 0, none⟩)] w (Does w B T E tv dp ns (fun W l v => SliceOf exE 7 W l v) (argsQ T E p k)) := by
  have hmf : ∀ (fn : Fn) (first cap : Array Value) (w : World), (Instr.makeFunc fn first cap).run Tryz.prog w = .ok (.func fn first cap) w := fun _ _ _ _ => rfl
  have HPX := Lib.hid hx
  clear hx
  have HP : Hid (argsQ T E p k = (mustP T E tLeft k).bind fun _ k1 =>
    if tkIs T k1 tRight then .ok [] (k1 + 1) else (listP T E p 4 tComma k1).bind fun l k2 => (mustP T E tRight k2).bind fun _ k3 => .ok l k3) := rfl
  obtain ⟨W1, eW⟩ : ∃ W1, w.alloc (.cells #[.pointer (some ⟨B, 0, none⟩)] 87) = W1 := ⟨_, rfl⟩
  have hB1 : Blk W1 w.heap.size [.pointer (some ⟨B, 0, none⟩)] 87 := by rw [← eW]; exact Blk.new _ _ _
  have hb1 : Below w.heap.size w W1 := by rw [← eW]; exact (Below.refl _ _).alloc (Nat.le_refl _) _
  have HN : Hid (w.heap.size < W1.heap.size) := hB1.lt
  have HNE : Hid (w.heap.size ≠ B) := by have := h.lt; unfold Hid; omega
  have HG : Hid (∀ W, Aside1 B W1 W → W.cell? ⟨w.heap.size, 0, none⟩ = some (.pointer (some ⟨B, 0, none⟩))) := fun W ha => by
    have := (hB1.aside ha HNE.out).cell 0
    simpa using this
  have HBL : Hid (B < W1.heap.size) := by have := h.lt; have := HN.out; unfold Hid; omega
  have HA1 := Lib.hid (aside_below (B := B) hb1)
  have HR1 := Lib.hid (h.below hb1)
  have g1 := HG.out W1 (Aside1.refl _ _)
  have h1 := must_calls HR1.out tLeft
  have HX : Hid (∀ W (l : List Ex) v, SliceOf exE 7 (since W1.heap.size W) l v → SliceOf exE 7 (since w.heap.size W) l v) := fun W l v q => SliceOf.stays exE_stays (since_mono _ (Nat.le_of_lt HN.out)) q
  clear hB1 hb1 h
  cases hm : mustP T E tLeft k with
  | bad c a =>
    rw [hm] at h1
    have HPE : Hid (argsQ T E p k = .bad c a) := by unfold Hid; rw [HP.out, hm]; rfl
    unfold tLeft at h1
    have H1 := Lib.hid h1
    clear h1 hm
    go_enter Tryz.func189, Tryz.ntmps189
    go_wp2_with (fail)
    refine H1.out.mono ?_
    rintro e w2 ⟨ha, rfl, hlf⟩
    have HA := Lib.hid (HA1.out.trans ha)
    have HLF := Lib.hid hlf
    clear hlf ha
    go_wp2_with (fail)
    rw [HPE.out]
    exact ⟨rfl, HA.out, rfl, HLF.out⟩
  | ok u k1 =>
    rw [hm] at h1
    have HPE : Hid (argsQ T E p k = if tkIs T k1 tRight then .ok [] (k1 + 1) else (listP T E p 4 tComma k1).bind fun l k2 => (mustP T E tRight k2).bind fun _ k3 => .ok l k3) := by unfold Hid; rw [HP.out, hm]; rfl
    unfold tLeft at h1
    have H1 := Lib.hid h1
    clear h1 hm HP
    cases hs : tkIs T k1 tRight with
    | true =>
      rw [hs] at HPE
      go_enter Tryz.func189, Tryz.ntmps189
      go_wp2_with (fail)
      refine H1.out.mono ?_
      rintro e w2 ⟨ha, v2, rfl, hr2, rfl⟩
      have HA2 := Lib.hid ha
      have g2 := HG.out w2 ha
      have h2 := eat_yes hr2 tRight hs
      unfold tRight at h2
      have H2 := Lib.hid h2
      clear ha hr2 h2 hs g1 eW H1
      go_wp2_with (fail)
      refine H2.out.mono ?_
      rintro e w3 ⟨rfl, ha, hr3⟩
      have HA3 := Lib.hid (HA1.out.trans (HA2.out.trans ha))
      have HR3 := Lib.hid hr3
      clear ha hr3 g2
      go_wp2_with (fail)
      go_ret
      rw [HPE.out]
      exact ⟨HA3.out, _, rfl, HR3.out, ⟨none, 0, rfl, Nat.le_refl _, by unfold maxLen; decide, .inl rfl⟩⟩
    | false =>
      rw [hs] at HPE
      go_enter Tryz.func189, Tryz.ntmps189
      go_wp2_with (fail)
      refine H1.out.mono ?_
      rintro e w2 ⟨ha, v2, rfl, hr2, rfl⟩
      have HA2 := Lib.hid ha
      have g2 := HG.out w2 ha
      have h2 := eat_no hr2 tRight hs
      unfold tRight at h2
      have H2 := Lib.hid h2
      clear ha hr2 h2 hs g1 eW H1
      go_wp2_with (fail)
      refine H2.out.mono ?_
      rintro e w3 ⟨rfl, ha, hr3⟩
      have HA3 := Lib.hid (HA2.out.trans ha)
      have g3 := HG.out w3 HA3.out
      have h3 := listEx_calls w.heap.size hr3 p 4 tComma (by decide) (by decide) (fun W k ha hr => args1_calls HPX.out hr (HG.out W (HA3.out.trans ha)) HNE.out)
      have HSZ3 : Hid (W1.heap.size ≤ w3.heap.size) := HA3.out.size
      clear ha hr3 g2 H2 HA2
      cases hl : listP T E p 4 tComma k1 with
      | bad c a =>
        rw [hl] at h3 HPE
        unfold tComma at h3
        have H3 := Lib.hid h3
        clear h3 hl
        go_wp2_with (fail)
        refine H3.out.mono ?_
        rintro e w4 ⟨ha, rfl, hlf⟩
        have HA := Lib.hid (HA1.out.trans (HA3.out.trans ha))
        have HLF := Lib.hid hlf
        clear hlf ha
        go_wp2_with (fail)
        rw [HPE.out]
        exact ⟨rfl, HA.out, rfl, HLF.out⟩
      | ok l k2 =>
        rw [hl] at h3 HPE
        unfold tComma at h3
        have H3 := Lib.hid h3
        clear h3 hl
        go_wp2_with (fail)
        refine H3.out.mono ?_
        rintro e w4 ⟨ha, v4, rfl, hr4, hs4⟩
        have HA4 := Lib.hid (HA3.out.trans ha)
        have HS4 : Hid (SliceOf exE 7 (since W1.heap.size w4) l v4) := SliceOf.stays exE_stays (since_mono _ HSZ3.out) hs4
        have g4 := HG.out w4 HA4.out
        have h4 := must_calls hr4 tRight
        obtain ⟨p4, n4, c4, rfl⟩ : ∃ p4 n4 c4, v4 = .slice p4 n4 c4 := by obtain ⟨p, c, e, _⟩ := hs4; exact ⟨_, _, _, e⟩
        clear ha hr4 hs4 g3 H3
        cases hm2 : mustP T E tRight k2 with
        | bad c a =>
          rw [hm2] at h4
          have HPF : Hid (argsQ T E p k = .bad c a) := by unfold Hid; rw [HPE.out]; show (mustP T E tRight k2).bind _ = _; rw [hm2]; rfl
          unfold tRight at h4
          have H4 := Lib.hid h4
          clear h4 hm2
          go_wp2_with (fail)
          refine H4.out.mono ?_
          rintro e w5 ⟨ha, rfl, hlf⟩
          have HA := Lib.hid (HA1.out.trans (HA4.out.trans ha))
          have HLF := Lib.hid hlf
          clear hlf ha
          go_wp2_with (fail)
          rw [HPF.out]
          exact ⟨rfl, HA.out, rfl, HLF.out⟩
        | ok u5 k3 =>
          rw [hm2] at h4
          have HPF : Hid (argsQ T E p k = .ok l k3) := by unfold Hid; rw [HPE.out]; show (mustP T E tRight k2).bind _ = _; rw [hm2]; rfl
          unfold tRight at h4
          have H4 := Lib.hid h4
          clear h4 hm2
          go_wp2_with (fail)
          refine H4.out.mono ?_
          rintro e w5 ⟨ha, v5, rfl, hr5, rfl⟩
          have HA := Lib.hid (HA1.out.trans (HA4.out.trans ha))
          have HR5 := Lib.hid hr5
          have HS5 := Lib.hid (SliceOf.stays exE_stays (since_aside ha HBL.out) HS4.out)
          clear ha hr5
          go_wp2_with (fail)
          go_ret
          rw [HPF.out]
          exact ⟨HA.out, _, rfl, HR5.out, HX.out _ _ _ HS5.out⟩
end
end Go.Proofs.YtmepcmnpmhhiiaaGreatDoor
namespace Go.Proofs.YtmepcmnpmhhiiaaGreatDoor
open Go.RowKit Go.Maps
set_option linter.unusedVariables false
set_option linter.unusedSimpArgs false

/-- What an expression in a box lies in: nothing old, and not the box. -/
abbrev unbox (n1 n5 : Nat) (w : World) : World := hide (fun b => decide (b < n1) || b == n5) w
/-- What stands in the loop of signs. -/
structure XI (w wo : World) (n5 : Nat) (B : Nat) (T : List Tok) (E : Int) (tv : Value) (dp ns : Nat) (x : Ex) (vl va : Value) (k : Nat) : Prop where
  rdr : Rdr wo B T E tv k dp ns
  aside : Aside1 B w wo
  res : Blk wo w.heap.size zeroC 26
  box : Blk wo n5 [.int .i64 x.kind, .int .i64 x.at_, .int .i64 x.num, .int .i64 x.ty, .string x.name, vl, va] 26
  lab : Lbl (unbox (w.heap.size + 1) n5 wo) x.lab vl
  kids : Exs (unbox (w.heap.size + 1) n5 wo) x.kids va
  old : w.heap.size < n5
section
variable {w wo wn w6 w7 : World} {n5 B : Nat} {T : List Tok} {E : Int} {tv : Value} {dp ns : Nat} {x y : Ex} {vl va : Value} {k k' : Nat}
theorem unbox_keeps {n1 n5 : Nat} (hs : wo.heap.size ≤ wn.heap.size) (h : ∀ b, b < wo.heap.size → n1 ≤ b → b ≠ n5 → wn.heap[b]? = wo.heap[b]?) : Keeps (unbox n1 n5 wo) (unbox n1 n5 wn) :=
  keeps_hide hs fun b hb hp => ⟨hp, h b hb (by simp at hp; omega) (by simp at hp; exact hp.2)⟩
theorem XI.step (h : XI w wo n5 B T E tv dp ns x vl va k) (hB : B < w.heap.size) (ha : Aside1 B wo wn) (hr : Rdr wn B T E tv k' dp ns) : XI w wn n5 B T E tv dp ns x vl va k' := by
  have hk : Keeps (unbox (w.heap.size + 1) n5 wo) (unbox (w.heap.size + 1) n5 wn) := unbox_keeps ha.size fun b hb h1 h2 => ha.block b hb (fun e => by simp at e; omega)
  exact ⟨hr, h.aside.trans ha, h.res.aside ha (by omega), h.box.aside ha (by have := h.old; omega), h.lab.stays hk, h.kids.stays hk, h.old⟩
theorem XI.below (h : XI w wo n5 B T E tv dp ns x vl va k) (hB : B < w.heap.size) (hb : Below wo.heap.size wo wn) : XI w wn n5 B T E tv dp ns x vl va k :=
  h.step hB (aside_below hb) (h.rdr.below hb)
theorem XI.is (h : XI w wo n5 B T E tv dp ns x vl va k) : ExIs (unbox (w.heap.size + 1) n5 wo) x (.agg #[.int .i64 x.kind, .int .i64 x.at_, .int .i64 x.num, .int .i64 x.ty, .string x.name, vl, va]) := ⟨vl, va, rfl, h.lab, h.kids⟩
/-- An expression's cells. -/
abbrev exC (x : Ex) (vl va : Value) : List Value := [.int .i64 x.kind, .int .i64 x.at_, .int .i64 x.num, .int .i64 x.ty, .string x.name, vl, va]
theorem exC_of {W : World} {x : Ex} {vl va : Value} (h1 : Lbl W x.lab vl) (h2 : Exs W x.kids va) : exE W x (exC x vl va) := by
  obtain ⟨kind, at_, n, ty, name, l, a⟩ := x
  exact exE_mk h1 h2
/-- The first one is laid into its box. -/
theorem XI.first (h0 : Rdr w B T E tv k dp ns) {w1 w2 : World} (e1 : w1 = w.alloc (.cells zeroC.toArray 26)) (ha : Aside1 B w1 w2) (hr : Rdr w2 B T E tv k' dp ns) (hl : Lbl (since w1.heap.size w2) x.lab vl) (hk : Exs (since w1.heap.size w2) x.kids va) :
    XI w (w2.alloc (.cells (exC x vl va).toArray 26)) w2.heap.size B T E tv dp ns x vl va k' := by
  have hb1 : Below w.heap.size w w1 := by rw [e1]; exact (Below.refl _ _).alloc (Nat.le_refl _) _
  have hn1 : w1.heap.size = w.heap.size + 1 := by rw [e1]; simp
  have hB := h0.lt
  have hres : Blk w1 w.heap.size zeroC 26 := by rw [e1]; exact Blk.new _ _ _
  have hb3 : Below w2.heap.size w2 (w2.alloc (.cells (exC x vl va).toArray 26)) := (Below.refl _ _).alloc (Nat.le_refl _) _
  have hsz := ha.size
  have hkp : Keeps (since w1.heap.size w2) (unbox (w.heap.size + 1) w2.heap.size (w2.alloc (.cells (exC x vl va).toArray 26))) := keeps_hide hb3.size fun b hb hp => ⟨by simp at hp ⊢; omega, hb3.block b hb⟩
  exact ⟨hr.below hb3, (aside_below hb1).trans (ha.trans (aside_below hb3)), (hres.aside ha (by omega)).below hb3, Blk.new _ _ _, hl.stays hkp, hk.stays hkp, by omega⟩
/-- The next sign's operands are put together. -/
theorem XI.next {k0 dp0 ns0 : Nat} (h : XI w w7 n5 B T E tv dp ns x vl va k) (h0 : Rdr w B T E tv k0 dp0 ns0) (hB : B < w.heap.size) {vl' va' : Value} (hn5 : n5 < w6.heap.size) (hl : Lbl (since w6.heap.size w7) y.lab vl') (hk : Exs (since w6.heap.size w7) y.kids va') (kind at_ : Int) (name : Txt) {wf : World}
    (ef : wf = sev (w7.alloc (.cells (exC x vl va ++ exC y vl' va').toArray 26)) n5 (.int .i64 kind) (.int .i64 at_) (.int .i64 0) (.int .i64 0) (.string name) (.slice none 0 0) (.slice (some ⟨w7.heap.size, 0, none⟩) 2 2)) (h67 : w6.heap.size ≤ w7.heap.size) (h6 : w.heap.size < w6.heap.size) :
    XI w wf n5 B T E tv dp ns (.mk kind at_ 0 0 name [] [x, y]) (.slice none 0 0) (.slice (some ⟨w7.heap.size, 0, none⟩) 2 2) k := by
  obtain ⟨w8, e8⟩ : ∃ w8, w7.alloc (.cells (exC x vl va ++ exC y vl' va').toArray 26) = w8 := ⟨_, rfl⟩
  have hb8 : Below w7.heap.size w7 w8 := by rw [← e8]; exact (Below.refl _ _).alloc (Nat.le_refl _) _
  have h8 := h.below hB hb8
  have hnew : Blk w8 w7.heap.size (exC x vl va ++ exC y vl' va') 26 := by rw [← e8]; exact Blk.new _ _ _
  rw [e8] at ef
  have hne : n5 ≠ w7.heap.size := by omega
  have hold := h.old
  have hsz : wf.heap.size = w8.heap.size := by rw [ef]; exact sev_size
  have hsame : ∀ b, b ≠ n5 → wf.heap[b]? = w8.heap[b]? := fun b hb => by rw [ef]; exact sev_block (fun e => hb e.symm)
  have hA : Aside1 B w wf := by rw [ef]; exact aside_sev h8.aside (by omega)
  have hkp : Keeps (unbox (w.heap.size + 1) n5 w8) (unbox (w.heap.size + 1) n5 wf) := unbox_keeps (by omega) fun b hb h1 h2 => hsame b h2
  have hx := exC_of (h8.lab.stays hkp) (h8.kids.stays hkp)
  have hkq : Keeps (since w6.heap.size w7) (unbox (w.heap.size + 1) n5 wf) := keeps_hide (by have := hb8.size; omega) fun b hb hp => by
    simp at hp
    exact ⟨by simp; omega, (hsame b (by omega)).trans (hb8.block b hb)⟩
  have hy := exC_of (hl.stays hkq) (hk.stays hkq)
  refine ⟨⟨?_, h0.toks.stays hA.keeps, h0.tab.aside hA⟩, hA, ?_, ?_, ⟨none, 0, rfl, Nat.le_refl _, by unfold maxLen; decide, .inl rfl⟩, ?_, hold⟩
  · rw [hsame B (by omega)]; exact h8.rdr.blk
  · exact (hsame _ (by omega)).trans h8.res
  · rw [ef]; exact Blk.sev h8.box
  · refine ⟨_, 2, rfl, Nat.le_refl _, by unfold maxLen; decide, .inr ⟨w7.heap.size, 0, rfl, fun i hi => ?_⟩⟩
    have hc : ∀ j, (unbox (w.heap.size + 1) n5 wf).cell? ⟨w7.heap.size, j, none⟩ = (exC x vl va ++ exC y vl' va')[j]? := fun j => by
      have hp : (decide (w7.heap.size < w.heap.size + 1) || w7.heap.size == n5) = false := by
        rw [Bool.or_eq_false_iff]
        exact ⟨decide_eq_false (by omega), beq_false_of_ne (by omega)⟩
      refine (hide_cell (fun b => decide (b < w.heap.size + 1) || b == n5) wf w7.heap.size j).trans ?_
      simp only [hp, Bool.false_eq_true, if_false]
      rw [World.cell?_of_block (a := ⟨w7.heap.size, j, none⟩) (hsame w7.heap.size (by omega))]
      exact hnew.cell j
    have hi2 : i = 0 ∨ i = 1 := by have e : [x, y].length = 2 := rfl; have hi' : i < [x, y].length := hi; omega
    rcases hi2 with rfl | rfl
    · refine ⟨exC x vl va, hx, rfl, fun j u hu => ?_⟩
      rw [hc, List.getElem?_append_left (by have := (List.getElem?_eq_some_iff.1 hu).1; omega)]
      simpa using hu
    · refine ⟨exC y vl' va', hy, rfl, fun j u hu => ?_⟩
      rw [hc, List.getElem?_append_right (by simp)]
      simpa using hu
end
theorem below_drew1 (w : World) : Below w.heap.size w w.drew := (Below.refl _ _).drew
theorem expr_out {w wo : World} {n5 B : Nat} {T : List Tok} {E : Int} {tv : Value} {dp ns k0 dp0 ns0 : Nat} {y : Ex} {vl va : Value} {k : Nat} (h0 : Rdr w B T E tv k0 dp0 ns0) (h : XI w wo n5 B T E tv dp ns y vl va k) (hB : B < w.heap.size) :
    Does w B T E tv dp ns ExIs (.ok y k) (.returned (.agg #[.int .i64 y.kind, .int .i64 y.at_, .int .i64 y.num, .int .i64 y.ty, .string y.name, vl, va])) (sev wo w.heap.size (.int .i64 y.kind) (.int .i64 y.at_) (.int .i64 y.num) (.int .i64 y.ty) (.string y.name) vl va) := by
  have hA := aside_sev (a := .int .i64 y.kind) (b := .int .i64 y.at_) (c := .int .i64 y.num) (d := .int .i64 y.ty) (e := .string y.name) (f := vl) (g := va) h.aside (Nat.le_refl _)
  refine ⟨hA, _, rfl, h0.via hA (sev_block (by omega)) h.rdr, h.is.stays (keeps_hide (by rw [sev_size]; exact Nat.le_refl _) fun b hb hp => ⟨?_, sev_block ?_⟩)⟩
  · simp at hp ⊢; omega
  · simp at hp; omega
theorem opLoop_stop {T : List Tok} {one : Nat → Rs Ex} {n : Int} {y : Ex} {k : Nat} (f : Nat) (h : (tkNext T k).1 ≠ 4 ∨ levelT (tkNext T k).2.2 ≠ n) : opLoop T one n f y k = .ok y k := by
  cases f with
  | zero => rfl
  | succ f => rw [opLoop, if_pos h]
/-- What is asked of tree.Level. -/
def LevelC : Prop := ∀ (s : Txt) (W : World), Tab W → Calls Tryz.prog 25 #[.string s] W fun e w' => e = .returned (.int .i64 (levelT s)) ∧ Below W.heap.size W w'
section
variable {w : World} {B : Nat} {T : List Tok} {E : Int} {tv : Value} {k dp ns : Nat}
set_option maxHeartbeats 2000000 in
set_option maxRecDepth 100000 in
theorem expr_six {prim : Nat → Rs Ex} (hp : ReadsEx B T E tv dp ns 136 #[.pointer (some ⟨B, 0, none⟩)] prim) (h : Rdr w B T E tv k dp ns) :
    Calls Tryz.prog 55 #[.pointer (some ⟨B, 0, none⟩), .int .i64 6] w (Does w B T E tv dp ns ExIs (prim k)) := by
  obtain ⟨W1, eW⟩ : ∃ W1, w.alloc (.cells #[.int .i64 0, .int .i64 0, .int .i64 0, .int .i64 0, .string ⟨#[]⟩, .slice none 0 0, .slice none 0 0] 26) = W1 := ⟨_, rfl⟩
  have hB1 : Blk W1 w.heap.size zeroC 26 := by rw [← eW]; exact Blk.new _ _ _
  have hb1 : Below w.heap.size w W1 := by rw [← eW]; exact (Below.refl _ _).alloc (Nat.le_refl _) _
  have HN : Hid (w.heap.size < W1.heap.size) := hB1.lt
  have HNE : Hid (w.heap.size ≠ B) := by have := h.lt; unfold Hid; omega
  have HB1 := Lib.hid hB1
  have HA1 := Lib.hid (aside_below (B := B) hb1)
  have h1 := hp W1 k (h.below hb1)
  have H0 := Lib.hid h
  clear hB1 hb1 h hp
  cases hr : prim k with
  | bad c a =>
    rw [hr] at h1
    have H1 := Lib.hid h1
    clear h1 hr
    go_enter Tryz.func55, Tryz.ntmps55
    go_wp2_with (fail)
    refine H1.out.mono ?_
    rintro e w2 ⟨ha, rfl, hlf⟩
    have HA := Lib.hid (HA1.out.trans ha)
    have HLF := Lib.hid hlf
    clear hlf ha
    go_wp2_with (fail)
    exact ⟨rfl, HA.out, rfl, HLF.out⟩
  | ok x k1 =>
    rw [hr] at h1
    have H1 := Lib.hid h1
    clear h1 hr
    go_enter Tryz.func55, Tryz.ntmps55
    go_wp2_with (fail)
    refine H1.out.mono ?_
    rintro e w2 ⟨ha, v2, rfl, hr2, hx2⟩
    have HA2 := Lib.hid (HA1.out.trans ha)
    have hB2 := HB1.out.aside ha HNE.out
    have HB2 := Lib.hid hB2
    have HR2 := Lib.hid hr2
    have HX2 := Lib.hid hx2
    obtain ⟨vl, va, rfl, hvl, hva⟩ := hx2
    obtain ⟨pl, cl, rfl, _⟩ := hvl
    obtain ⟨pa, ca, rfl, _⟩ := hva
    obtain ⟨c0, c1, c2, c3, c4, c5, c6⟩ := Blk.cells7 hB2
    obtain ⟨f0, f1, f2, f3, f4, f5, f6⟩ := Blk.fz7 hB2
    clear ha hB2 hr2 H1 eW
    go_wp2_with (fail)
    refine bodyPost_ret (v := .agg #[.int .i64 x.kind, .int .i64 x.at_, .int .i64 x.num, .int .i64 x.ty, .string x.name, .slice pl x.lab.length cl, .slice pa x.kids.length ca]) ?_ rfl ?_
    · obtain ⟨q0, q1, q2, q3, q4, q5, q6⟩ := (Blk.sev (a := .int .i64 x.kind) (b := .int .i64 x.at_) (c := .int .i64 x.num) (d := .int .i64 x.ty) (e := .string x.name) (f := .slice pl x.lab.length cl) (g := .slice pa x.kids.length ca) HB2.out).cells7
      unfold sev at q0 q1 q2 q3 q4 q5 q6
      simp [results, Tryz.results55, go_sem, q0, q1, q2, q3, q4, q5, q6]
    · have hA9 := aside_sev (a := .int .i64 x.kind) (b := .int .i64 x.at_) (c := .int .i64 x.num) (d := .int .i64 x.ty) (e := .string x.name) (f := .slice pl x.lab.length cl) (g := .slice pa x.kids.length ca) HA2.out (Nat.le_refl _)
      exact ⟨hA9, _, rfl, H0.out.via hA9 (sev_block HNE.out) HR2.out, HX2.out.stays ((since_sev HN.out).trans (since_mono _ (Nat.le_of_lt HN.out)))⟩
end
end Go.Proofs.YtmepcmnpmhhiiaaGreatDoor
