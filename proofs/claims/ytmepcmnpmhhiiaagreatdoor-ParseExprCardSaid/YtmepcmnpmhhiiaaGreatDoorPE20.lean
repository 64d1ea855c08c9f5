/- Texts of the proof that ParseExpr holds, part 20; no conditions. -/
import Derived.Test.YtmepcmnpmhhiiaaGreatDoorPE19
namespace Go.Proofs.YtmepcmnpmhhiiaaGreatDoor
set_option linter.unusedVariables false
set_option linter.unusedSimpArgs false
set_option maxHeartbeats 8000000
set_option maxRecDepth 100000
section
open Go.RowKit
theorem tokens_calls (s : Txt) (mx : Int) (w : World) (hm : w.cell? ⟨0, 0, none⟩ = some (.int .i64 mx)) (htab : Lib.TabIs Tryz.prog w "strings.asciiSpace" .u8 Lib.asciiSpaceTab) :
 Calls Tryz.prog 144 #[.string s] w fun e w' => ∃ y, e = .returned (.tuple #[y, .agg #[.int .i64 (scanOf s).2.1, .int .i64 (scanOf s).2.2]]) ∧ Toks w' (scanOf s).1 y ∧ Below w.heap.size w w' := by
 obtain ⟨W1, eW⟩ : ∃ W1, w.alloc (.cells #[.int .i64 0, .int .i64 0] 35) = W1 := ⟨_, rfl⟩
 obtain ⟨z1, hW1, m1⟩ := boxes1 eW
 have hf0 := m1 0
 have hf1 := m1 1
 simp only [List.getElem?_toArray, List.getElem?_cons_zero, List.getElem?_cons_succ] at hf0 hf1
 have hff : ∀ j, W1.frozen? ⟨w.heap.size, j, none⟩ = false := fun j => by rw [← eW]; exact World.frozen?_alloc_at _ _ _ _ rfl
 have HFR := Hd hff
 have HW1 := Hd hW1
 have HLK : Hid (w.heap.size < W1.heap.size) := by unfold Hid; omega
 have HM := Hd hm
 have HTAB := Hd htab
 clear m1 hW1 z1 hff hm htab
 by_cases h0 : s.size ≤ 4000
 · have h0' : (s.size : Int) ≤ 4000 := by omega
   have HE : Hid (scanOf s = scanGo s s.size 0 []) := by unfold Hid scanOf; rw [if_neg (by omega)]
   have HST : Hid (Scn W1.heap.size W1 (W1.alloc (.cells #[.int .i64 0] 3)) W1.heap.size 0 (.slice none 0 0) []) :=
    ⟨(Below.refl _ _).alloc (Nat.le_refl _) _, AtBox.new _ _, Nat.le_refl _, World.ownsRow_nil _ _ _ _, by simp [Value.ownBlock]⟩
   have HF0 := Hd hf0
   have HF1 := Hd hf1
   clear hf0 hf1
   have eg : ∀ args w, (callFunc 195 args).run Tryz.prog w = .ok (.enter 195 args) w := enters_at Tryz.func195 (by kernel_rfl) rfl
   go_enter Tryz.func144, Tryz.ntmps144
   go_wp2
   go_loopw [4] (fun v wr => ∃ (k f : Nat) (l : List Tok) (y : Value) (wo : World), y = v ∧ wo = wr ∧ k ≤ s.size ∧ s.size - k ≤ f ∧ Hid (Scn W1.heap.size W1 wo W1.heap.size k y l) ∧ l.length ≤ 600 ∧ Hid (scanGo s f k l = scanOf s)) (fun _ wr => s.size - placeAt wr (.pointer (some ⟨W1.heap.size, 0, none⟩)))
   case atStart => exact ⟨0, s.size, [], _, _, rfl, rfl, Nat.zero_le _, by omega, HST, by simp, HE.out.symm⟩
   case round =>
    clear eW
    obtain ⟨k, f, l, v, wo, rfl, rfl, hk, hf, HS, hl, HG⟩ := hrel
    have hbox := HS.out.box.cell
    have hfree := HS.out.box.free
    have HN : Hid (W1.heap.size ≤ wo.heap.size) := HS.out.below.size
    have HPL := Hd (placeAt_box HS.out.box)
    have HMW : Hid (∀ W, Below W1.heap.size W1 W → W.cell? ⟨0, 0, none⟩ = some (.int .i64 mx)) := fun W h => ((HW1.out.trans (h.mono HW1.out.size)).cell (cell_lt HM.out)).trans HM.out
    have HTW : Hid (∀ W, Below W1.heap.size W1 W → Lib.TabIs Tryz.prog W "strings.asciiSpace" .u8 Lib.asciiSpaceTab) := fun W h => tab_below HTAB.out (HW1.out.trans (h.mono HW1.out.size))
    by_cases hlt : k < s.size
    · have hkk : (k : Int) < (s.size : Int) := by omega
      have hk1 : (k : Int) + 1 ≤ (s.size : Int) := by omega
      have hk2 : (k : Int) ≤ (k : Int) + 1 := by omega
      have hk3 : (k : Int) ≤ (s.size : Int) := by omega
      obtain ⟨f, rfl⟩ : ∃ f', f = f' + 1 := ⟨f - 1, by omega⟩
      obtain ⟨c, ec⟩ : ∃ c, s.extract k (k + 1) = c := ⟨_, rfl⟩
      obtain ⟨rest, er⟩ : ∃ r, s.extract k s.size = r := ⟨_, rfl⟩
      have hrs : rest.size = s.size - k := by rw [← er, ByteArray.size_extract]; omega
      have HRS := Hd hrs
      have hr4 : rest.size ≤ 4000 := by omega
      have HEC := Hd ec
      have HRB : Hid (rest.data.toList = restOf s k) := by unfold Hid; rw [← er]; exact rest_extract (by omega)
      have HCI : Hid (∀ b : UInt8, c = ⟨#[b]⟩ ↔ s[k] = b) := fun b => char_is hlt ec b
      have HHC : Hid (∀ (L : List UInt8) (P : Txt), P.data.toList = L → Lib.contains P.data.toList c.data.toList = L.contains s[k]) := fun L P hp => has_char hlt ec hp
      clear hrs
      cases hb : blanksB.contains s[k] with
      | true =>
        have HSK : Hid (scanGo s f (k + 1) l = scanOf s) := by rw [← HG.out]; exact (scanGo_skip hlt (tok_blank hlt hb)).symm
        have HB := Hd hb
        obtain ⟨W7, eW7⟩ : ∃ W7, wo.setCell ⟨W1.heap.size, 0, none⟩ (.int .i64 ((k : Int) + 1)) = W7 := ⟨_, rfl⟩
        have HS7 : Hid (Scn W1.heap.size W1 W7 W1.heap.size ((k : Int) + 1) v l) := by rw [← eW7]; exact HS.out.setAt _
        clear hb
        go_wp2_with (fail)
        refine (Tryz.strings_Contains _ _ mx _ ?hs (HMW.out _ HS.out.below)).mono ?_
        case hs => decide +kernel
        rintro e' wx ⟨rfl, hwx⟩
        obtain rfl := hwx.symm
        rw [HHC.out blanksB _ ?hp]
        case hp => kernel_rfl
        rw [HB.out]
        go_wp2
        go_roundw
        case rel => exact ⟨k + 1, f, l, v, _, rfl, rfl, by omega, by omega, HS7.out, hl, HSK⟩
        case measure =>
         have h1 := placeAt_box (k := k + 1) HS7.out.box
         have h2 := HPL.out
         simp [h1, h2]
         omega
      | false =>
        by_cases h35 : s[k] = 35
        · skip
          have h35 : s[k] = 35 := h35
          have hc35 : c = ⟨#[35]⟩ := (HCI.out 35).2 h35
          have qa : (c.toList == [35]) = true := by rw [hc35, Lib.toList_data]; rfl
          have HB := Hd hb
          have HXV : Hid (∀ x : Int, x = 10 → Lib.indexByte rest.data.toList x.toNat.toUInt8 = Lib.indexByte (restOf s k) 10) := fun x hx => by subst hx; rw [HRB.out]; rfl
          have hge := Lib.indexByte_ge (restOf s k) 10
          by_cases hix : 0 ≤ Lib.indexByte (restOf s k) 10
          · obtain ⟨n, hn⟩ : ∃ n : Nat, Lib.indexByte (restOf s k) 10 = n := ⟨(Lib.indexByte (restOf s k) 10).toNat, by omega⟩
            have hrun := note_some hlt hn
            have hre := runEnd_le (q := noteB) (show k ≤ s.size by omega)
            have hrg := runEnd_ge noteB s k
            have hn1 : 1 ≤ n := by
             rw [← hrun, runEnd_step hlt (by unfold noteB; rw [h35]; rfl)]
             have := runEnd_ge noteB s (k + 1)
             omega
            have hkn : k + n ≤ s.size := by omega
            have HSK : Hid (scanGo s f (k + n) l = scanOf s) := by rw [← HG.out, ← hrun]; exact (scanGo_skip hlt (tok_note hlt h35)).symm
            have HN2 := Hd hn
            obtain ⟨W7, eW7⟩ : ∃ W7, wo.setCell ⟨W1.heap.size, 0, none⟩ (.int .i64 ((k : Int) + (n : Int))) = W7 := ⟨_, rfl⟩
            have HS7 : Hid (Scn W1.heap.size W1 W7 W1.heap.size ((k : Int) + (n : Int)) v l) := by rw [← eW7]; exact HS.out.setAt _
            clear hb h35 hc35 hix hge hn hrun hre hrg
            go_wp2_with (fail)
            refine (Tryz.strings_Contains _ _ mx _ ?hs (HMW.out _ HS.out.below)).mono ?_
            case hs => decide +kernel
            rintro e' wx ⟨rfl, hwx⟩
            obtain rfl := hwx.symm
            rw [HHC.out blanksB _ ?hp]
            case hp => kernel_rfl
            rw [HB.out]
            go_wp2_with (fail)
            refine (Tryz.strings_IndexByte _ _ _).mono ?_
            rintro e' wx ⟨rfl, hwx⟩
            obtain rfl := hwx.symm
            rw [HXV.out _ rfl, HN2.out]
            go_wp2
            go_roundw
            case rel => exact ⟨k + n, f, l, v, _, rfl, rfl, by omega, by omega, HS7.out, hl, HSK⟩
            case measure =>
             have h1 := placeAt_box (k := k + n) HS7.out.box
             have h2 := HPL.out
             simp [h1, h2]
             omega
          · have hn : Lib.indexByte (restOf s k) 10 = -1 := by omega
            have hrun := note_none hlt hn
            have HR : Hid (scanOf s = (l, 0, 0)) := by
             rw [Hid, ← HG.out, scanGo_skip hlt (tok_note hlt h35), hrun]
             exact scanGo_end (by omega)
            have HN2 := Hd hn
            clear hb h35 hc35 hix hge hn hrun
            go_wp2_with (fail)
            refine (Tryz.strings_Contains _ _ mx _ ?hs (HMW.out _ HS.out.below)).mono ?_
            case hs => decide +kernel
            rintro e' wx ⟨rfl, hwx⟩
            obtain rfl := hwx.symm
            rw [HHC.out blanksB _ ?hp]
            case hp => kernel_rfl
            rw [HB.out]
            go_wp2_with (fail)
            refine (Tryz.strings_IndexByte _ _ _).mono ?_
            rintro e' wx ⟨rfl, hwx⟩
            obtain rfl := hwx.symm
            rw [HXV.out _ rfl, HN2.out]
            have q0 : wo.frozen? ⟨w.heap.size, 0, none⟩ = false := (HS.out.below.frozen (p := ⟨w.heap.size, 0, none⟩) HLK.out).trans (HFR.out 0)
            have q1 : wo.frozen? ⟨w.heap.size, 1, none⟩ = false := (HS.out.below.frozen (p := ⟨w.heap.size, 1, none⟩) HLK.out).trans (HFR.out 1)
            have f0 : wo.cell? ⟨w.heap.size, 0, none⟩ = some (.int .i64 0) := (HS.out.below.cell (p := ⟨w.heap.size, 0, none⟩) HLK.out).trans HF0.out
            have f1 : wo.cell? ⟨w.heap.size, 1, none⟩ = some (.int .i64 0) := (HS.out.below.cell (p := ⟨w.heap.size, 1, none⟩) HLK.out).trans HF1.out
            go_wp2
            refine bodyPost_ret (v := .tuple #[v, .agg #[.int .i64 0, .int .i64 0]]) ?_ rfl ⟨_, by rw [HR.out], ?_, ?_⟩
            · obtain ⟨g0, g1⟩ := fault_cells f0 f1 (.int .i64 0) (.int .i64 0)
              simp [results, Tryz.results144, go_sem, g0, g1]
            · rw [HR.out]
              exact SliceOf.of_rows (ownsRow_setCell_below (ownsRow_setCell_below HS.out.row HLK.out _) HLK.out _) (tok_rows _ _)
            · exact ((HW1.out.trans (HS.out.below.mono HW1.out.size)).setCell (Nat.le_refl _) _).setCell (Nat.le_refl _) _
        · skip
          have hn35 : ¬ c = ⟨#[35]⟩ := fun e => h35 ((HCI.out 35).1 e)
          have qa : (c.toList == [35]) = false := by
           cases e : (c.toList == [35]) with
           | false => rfl
           | true => exact absurd (txt_ext (show bytesOf c = _ by rw [Lib.toList_data] at e; exact eq_of_beq e)) hn35
          have HB := Hd hb
          have H35 : Hid (s[k] ≠ 35) := h35
          obtain ⟨W5, eW5⟩ : ∃ W5, wo.alloc (.cells #[.int .i64 0, .int .i64 k, .string ⟨#[]⟩] 153) = W5 := ⟨_, rfl⟩
          have hTB5 : TokBox W5 wo.heap.size 0 k ⟨#[]⟩ := by rw [← eW5]; exact TokBox.new _ _ _ _
          have hc52 := hTB5.cell2
          have hf52 := hTB5.free 2
          obtain ⟨W6, eW6⟩ : ∃ W6, W5.setCell ⟨wo.heap.size, 2, none⟩ (.string ⟨#[]⟩) = W6 := ⟨_, rfl⟩
          have hb6 : Below wo.heap.size wo W6 := by rw [← eW6, ← eW5]; exact ((Below.refl _ _).alloc (Nat.le_refl _) _).setCell (Nat.le_refl _) _
          have HTB : Hid (TokBox W6 wo.heap.size 0 k ⟨#[]⟩) := by rw [← eW6]; exact hTB5.set2 _
          have HS6 : Hid (Scn W1.heap.size W1 W6 W1.heap.size k v l) := HS.out.sub HN.out hb6
          have HNE : Hid (W1.heap.size ≠ wo.heap.size ∧ v.ownBlock ≠ some wo.heap.size) := ⟨by have := HS.out.box.lt; omega, fun e => by have := (HS.out.row.lt _ e).2; omega⟩
          have HB6 := Hd hb6
          clear hTB5 hb6 hb h35 hn35
          have c0W6 := HTB.out.cell0
          have c1W6 := HTB.out.cell1
          have c2W6 := HTB.out.cell2
          have fW6 := HTB.out.free
          have bW6 := HS6.out.box.cell
          have bfW6 := HS6.out.box.free
          go_wp2_with (fail)
          refine (Tryz.strings_Contains _ _ mx _ ?hs (HMW.out _ HS.out.below)).mono ?_
          case hs => decide +kernel
          rintro e' wx ⟨rfl, hwx⟩
          obtain rfl := hwx.symm
          rw [HHC.out blanksB _ ?hp]
          case hp => kernel_rfl
          rw [HB.out]
          cases hle : letterB (s[k].toNat) with
          | true =>
            have HLE := Hd hle
            clear hle
            obtain ⟨e, ee⟩ : ∃ e, runEnd wordB s k = e := ⟨_, rfl⟩
            have he2 : e ≤ s.size := by rw [← ee]; exact runEnd_le (by omega)
            have he1 : k < e := by
             rw [← ee, runEnd_step hlt (by unfold wordB; rw [HLE.out]; rfl)]
             exact runEnd_ge _ _ _
            obtain ⟨t, et⟩ : ∃ t, s.extract k e = t := ⟨_, rfl⟩
            have ht : t.size = e - k := by rw [← et, ByteArray.size_extract]; omega
            obtain ⟨TL, eTL⟩ : ∃ TL : Txt, (⟨(Lib.trimLeftS rest.data.toList (lettersB ++ figuresB)).toArray⟩ : Txt) = TL := ⟨_, rfl⟩
            have hTL : rest.size - TL.size = t.size := by
             have h1 := trim_run (q := wordB) (s := s) (a := k) (cut := lettersB ++ figuresB) wordset_mem
             have h2 : TL.size = (Lib.trimLeftS (restOf s k) (lettersB ++ figuresB)).length := by rw [← eTL, HRB.out]; exact List.size_toArray
             rw [h2, HRS.out, h1, ee, ht]
            have hTL2 : TL.size ≤ rest.size := by
             rw [← eTL, HRB.out]
             show ((Lib.trimLeftS (restOf s k) (lettersB ++ figuresB)).toArray).size ≤ _
             rw [List.size_toArray, HRS.out, ← rest_size]
             unfold Lib.trimLeftS
             exact (List.dropWhile_suffix _).length_le
            have hsub : (rest.size : Int) - (TL.size : Int) = (t.size : Int) := by omega
            have hcut : rest.extract 0 t.size = t := by
             have := cut_run (q := wordB) (s := s) (a := k) (by omega)
             rw [ee, et, ← ht, er] at this
             exact this
            have HET : Hid (s.extract k (runEnd wordB s k) = t) := by unfold Hid; rw [ee, et]
            have HTZ : Hid (k + t.size ≤ s.size ∧ 0 < t.size) := ⟨by omega, by omega⟩
            have HTR : Hid (∀ (W : World) (P : Txt), P.data.toList = lettersB ++ figuresB → 2 ≤ P.size → P.size < 4294967281 → Calls Tryz.prog 196 #[.string rest, .string P] W fun e' w'' => e' = .returned (.string TL) ∧ w'' = (W.alloc (.cells (Lib.setCells (lettersB ++ figuresB)) 216)).alloc (.cells (Lib.setCells (lettersB ++ figuresB)) 216)) := fun W P hp h1 h2 => by
             have := trimLeft_calls rest P W h1 h2 (by rw [hp]; exact ascii_of_all (by decide +kernel)) (by have := HRS.out; omega) (T := TL) (by rw [hp]; exact eTL)
             rw [hp] at this
             exact this
            have htr : TL.size ≤ 4000 := by omega
            have hr0 : (0 : Int) ≤ (t.size : Int) := by omega
            have hr1 : (t.size : Int) ≤ (rest.size : Int) := by omega
            clear ee et eTL ht he1 he2 hTL
            have HWO : Hid (stepOf s k (s[k].toNat) = if isWord t then .tok 3 t else if 12 < t.size then .bad 2 else .tok 1 t) := tok_word hlt HB.out H35.out HLE.out HET.out
            obtain ⟨WA, eWA⟩ : ∃ WA, (W6.alloc (.cells (Lib.setCells (lettersB ++ figuresB)) 216)).alloc (.cells (Lib.setCells (lettersB ++ figuresB)) 216) = WA := ⟨_, rfl⟩
            have hbA : Below W6.heap.size W6 WA := by rw [← eWA]; exact ((Below.refl _ _).alloc (Nat.le_refl _) _).alloc (by simp) _
            have HN6 : Hid (W1.heap.size ≤ W6.heap.size) := HS6.out.below.size
            have HTA : Hid (TokBox WA wo.heap.size 0 k ⟨#[]⟩) := HTB.out.below hbA
            have HSA : Hid (Scn W1.heap.size W1 WA W1.heap.size k v l) := HS6.out.sub HN6.out hbA
            clear hbA
            go_wp2_with (fail)
            refine (Tryz.strings_Contains _ _ mx _ ?hs (HMW.out _ HS6.out.below)).mono ?_
            case hs => decide +kernel
            rintro e' wx ⟨rfl, hwx⟩
            obtain rfl := hwx.symm
            rw [HHC.out lettersB _ ?hp]
            case hp => kernel_rfl
            rw [(letters_mem s[k]).trans HLE.out]
            go_wp2_with (fail)
            refine (HTR.out _ _ ?hp ?h1 ?h2).mono ?_
            case hp => kernel_rfl
            case h1 => decide +kernel
            case h2 => decide +kernel
            rintro e' wx ⟨rfl, rfl⟩
            rw [eWA]
            have c0WA := HTA.out.cell0
            have c1WA := HTA.out.cell1
            have c2WA := HTA.out.cell2
            have fWA := HTA.out.free
            have bWA := HSA.out.box.cell
            have bfWA := HSA.out.box.free
            obtain ⟨W7, eW7⟩ : ∃ W7, WA.setCell ⟨wo.heap.size, 2, none⟩ (.string t) = W7 := ⟨_, rfl⟩
            have HT7 : Hid (TokBox W7 wo.heap.size 0 k t) := by rw [← eW7]; exact HTA.out.set2 _
            have HS7 : Hid (Scn W1.heap.size W1 W7 W1.heap.size k v l) := by rw [← eW7]; exact HSA.out.other HN.out HNE.out.1 HNE.out.2 _
            have c0W7 := HT7.out.cell0
            have c1W7 := HT7.out.cell1
            have c2W7 := HT7.out.cell2
            have fW7 := HT7.out.free
            have bW7 := HS7.out.box.cell
            have bfW7 := HS7.out.box.free
            obtain ⟨W8, eW8⟩ : ∃ W8, W7.setCell ⟨wo.heap.size, 0, none⟩ (.int .i64 1) = W8 := ⟨_, rfl⟩
            have HT8 : Hid (TokBox W8 wo.heap.size 1 k t) := by rw [← eW8]; exact HT7.out.set0 _
            have HS8 : Hid (Scn W1.heap.size W1 W8 W1.heap.size k v l) := by rw [← eW8]; exact HS7.out.other HN.out HNE.out.1 HNE.out.2 _
            have c0W8 := HT8.out.cell0
            have c1W8 := HT8.out.cell1
            have c2W8 := HT8.out.cell2
            have fW8 := HT8.out.free
            have bW8 := HS8.out.box.cell
            have bfW8 := HS8.out.box.free
            go_wp2_with (fail)
            refine (refWord_calls t mx _ (by have := HTZ.out; omega) (HMW.out _ HS8.out.below)).mono ?_
            rintro e' w9 ⟨rfl, rfl⟩
            cases hw : isWord t with
            | true =>
              have HSTEP : Hid (stepOf s k (s[k].toNat) = .tok 3 t) := by unfold Hid; rw [HWO.out, hw]; rfl
              clear hw
              obtain ⟨W10, eW10⟩ : ∃ W10, W8.setCell ⟨wo.heap.size, 0, none⟩ (.int .i64 3) = W10 := ⟨_, rfl⟩
              have HT10 : Hid (TokBox W10 wo.heap.size 3 k t) := by rw [← eW10]; exact HT8.out.set0 _
              have HS10 : Hid (Scn W1.heap.size W1 W10 W1.heap.size k v l) := by rw [← eW10]; exact HS8.out.other HN.out HNE.out.1 HNE.out.2 _
              have c0W10 := HT10.out.cell0
              have c1W10 := HT10.out.cell1
              have c2W10 := HT10.out.cell2
              have fW10 := HT10.out.free
              have bW10 := HS10.out.box.cell
              have bfW10 := HS10.out.box.free
              obtain ⟨t0, hi, hz0, hz1, hz2⟩ := info_parts Tryz.info_token
              obtain ⟨pv, cv, rfl⟩ := own_slice HS10.out.row
              by_cases hmm : l.length = 600
              · have hm' : 600 ≤ (l.length : Int) := by omega
                have HR : Hid (scanOf s = ([], 2, (k : Int))) := by rw [← HG.out]; exact scanGo_many hlt HSTEP.out hmm
                have y0 : W10.cell? ⟨w.heap.size, 0, none⟩ = some (.int .i64 0) := (HS10.out.below.cell (p := ⟨w.heap.size, 0, none⟩) HLK.out).trans HF0.out
                go_wp2_with (fail)
                refine (failF_calls 2 k W1.heap.size _ HS10.out.box.cell).mono ?_
                rintro e' wf ⟨rfl, hbf⟩
                have HNW : Hid (W1.heap.size ≤ W10.heap.size) := HS10.out.below.size
                have HSf : Hid (Scn W1.heap.size W1 wf W1.heap.size k (.slice pv l.length cv) l) := HS10.out.sub HNW.out hbf
                have q0 : wf.frozen? ⟨w.heap.size, 0, none⟩ = false := (HSf.out.below.frozen (p := ⟨w.heap.size, 0, none⟩) HLK.out).trans (HFR.out 0)
                have q1 : wf.frozen? ⟨w.heap.size, 1, none⟩ = false := (HSf.out.below.frozen (p := ⟨w.heap.size, 1, none⟩) HLK.out).trans (HFR.out 1)
                have x0 : wf.cell? ⟨w.heap.size, 0, none⟩ = some (.int .i64 0) := (HSf.out.below.cell (p := ⟨w.heap.size, 0, none⟩) HLK.out).trans HF0.out
                have x1 : wf.cell? ⟨w.heap.size, 1, none⟩ = some (.int .i64 0) := (HSf.out.below.cell (p := ⟨w.heap.size, 1, none⟩) HLK.out).trans HF1.out
                clear y0 hbf
                go_wp2
                refine bodyPost_ret (v := .tuple #[.slice none 0 0, .agg #[.int .i64 2, .int .i64 k]]) ?_ rfl ⟨_, by rw [HR.out], ?_, ?_⟩
                · obtain ⟨g0, g1⟩ := fault_cells x0 x1 (.int .i64 2) (.int .i64 k)
                  simp [results, Tryz.results144, go_sem, g0, g1]
                · rw [HR.out]
                  exact nilT _
                · exact ((HW1.out.trans (HSf.out.below.mono HW1.out.size)).setCell (Nat.le_refl _) _).setCell (Nat.le_refl _) _
              · have hm' : ¬ 600 ≤ (l.length : Int) := by omega
                have HSK : Hid (scanGo s f (k + t.size) (l ++ [(3, (k : Int), t)]) = scanOf s) := by rw [← HG.out]; exact (scanGo_tok hlt HSTEP.out hmm).symm
                have HNW : Hid (W1.heap.size ≤ W10.heap.size) := HS10.out.below.size
                have hnw := HNW.out
                go_wp2_with (at_builtin; refine wpList_append_own_at _ rfl _ _ 79 rfl W1.heap.size 153 t0 (.agg #[.int .i64 0, .int .i64 0, .string ByteArray.empty]) 3 32 Tryz.underlying79 hi hz0 hz1 hz2 rfl (by decide) _ _ _ rfl (HS10.out.row.alloc _) ⟨W10.heap.size, 0, none⟩ 1 1 (tokCells (3, (k : Int), t)) rfl rfl ?c1 ?c2 ?c3 ?c4 ?c5 ?_)
                case c1 =>
                 intro j u hj
                 match j, hj with
                 | 0, hj => simp [tokCells] at hj; subst hj; simp [Addr.add]
                 | 1, hj => simp [tokCells] at hj; subst hj; simp [Addr.add]
                 | 2, hj => simp [tokCells] at hj; subst hj; simp [Addr.add]
                case c2 => intro u hu; simp [tokCells] at hu; rcases hu with rfl | rfl | rfl <;> rfl
                case c3 => unfold maxLen; omega
                case c4 => omega
                case c5 => first | omega | (simp; omega)
                · intro v' wa hown' hgrow _ hob
                  have HSa : Hid (Scn W1.heap.size W1 wa W1.heap.size k v' (l ++ [(3, (k : Int), t)])) := HS10.out.append HNW.out _ _ hown' hgrow hob
                  have HTa : Hid (TokBox wa wo.heap.size 3 k t) := HT10.out.append HNE.out.2 _ hgrow
                  clear hown' hgrow hob
                  have c0wa := HTa.out.cell0
                  have c1wa := HTa.out.cell1
                  have c2wa := HTa.out.cell2
                  have fwa := HTa.out.free
                  have bwa := HSa.out.box.cell
                  have bfwa := HSa.out.box.free
                  obtain ⟨Wb, eWb⟩ : ∃ Wb, wa.setCell ⟨W1.heap.size, 0, none⟩ (.int .i64 ((k : Int) + (t.size : Int))) = Wb := ⟨_, rfl⟩
                  have HSb : Hid (Scn W1.heap.size W1 Wb W1.heap.size ((k : Int) + (t.size : Int)) v' (l ++ [(3, (k : Int), t)])) := by rw [← eWb]; exact HSa.out.setAt _
                  have HTS : Hid (k + t.size ≤ s.size ∧ 0 < t.size) := HTZ.out
                  have hbd : (k : Int) + (t.size : Int) ≤ 4000 := by have := HTZ.out; omega
                  go_wp2
                  go_roundw
                  case rel => exact ⟨k + t.size, f, _, v', _, rfl, rfl, HTS.out.1, by have := HTS.out.2; omega, HSb.out, by rw [List.length_append]; simp; omega, HSK⟩
                  case measure =>
                   have h1 := placeAt_box (k := k + t.size) HSb.out.box
                   have h2 := HPL.out
                   have h3 := HTS.out
                   simp [h1, h2]
                   omega
            | false =>
              by_cases h12 : 12 < t.size
              · have h12i : 12 < (t.size : Int) := by omega
                have HBAD : Hid (stepOf s k (s[k].toNat) = .bad 2) := by unfold Hid; rw [HWO.out, hw, if_pos h12]; rfl
                have HR : Hid (scanOf s = ([], 2, (k : Int))) := by rw [← HG.out]; exact scanGo_bad hlt HBAD.out
                clear hw h12
                have y0 : W8.cell? ⟨w.heap.size, 0, none⟩ = some (.int .i64 0) := (HS8.out.below.cell (p := ⟨w.heap.size, 0, none⟩) HLK.out).trans HF0.out
                go_wp2_with (fail)
                refine (failF_calls 2 k W1.heap.size _ HS8.out.box.cell).mono ?_
                rintro e' wf ⟨rfl, hbf⟩
                have HNW : Hid (W1.heap.size ≤ W8.heap.size) := HS8.out.below.size
                have HSf : Hid (Scn W1.heap.size W1 wf W1.heap.size k v l) := HS8.out.sub HNW.out hbf
                have q0 : wf.frozen? ⟨w.heap.size, 0, none⟩ = false := (HSf.out.below.frozen (p := ⟨w.heap.size, 0, none⟩) HLK.out).trans (HFR.out 0)
                have q1 : wf.frozen? ⟨w.heap.size, 1, none⟩ = false := (HSf.out.below.frozen (p := ⟨w.heap.size, 1, none⟩) HLK.out).trans (HFR.out 1)
                have x0 : wf.cell? ⟨w.heap.size, 0, none⟩ = some (.int .i64 0) := (HSf.out.below.cell (p := ⟨w.heap.size, 0, none⟩) HLK.out).trans HF0.out
                have x1 : wf.cell? ⟨w.heap.size, 1, none⟩ = some (.int .i64 0) := (HSf.out.below.cell (p := ⟨w.heap.size, 1, none⟩) HLK.out).trans HF1.out
                clear y0 hbf
                go_wp2
                refine bodyPost_ret (v := .tuple #[.slice none 0 0, .agg #[.int .i64 2, .int .i64 k]]) ?_ rfl ⟨_, by rw [HR.out], ?_, ?_⟩
                · obtain ⟨g0, g1⟩ := fault_cells x0 x1 (.int .i64 2) (.int .i64 k)
                  simp [results, Tryz.results144, go_sem, g0, g1]
                · rw [HR.out]
                  exact nilT _
                · exact ((HW1.out.trans (HSf.out.below.mono HW1.out.size)).setCell (Nat.le_refl _) _).setCell (Nat.le_refl _) _
              · have h12i : ¬ 12 < (t.size : Int) := by omega
                have HSTEP : Hid (stepOf s k (s[k].toNat) = .tok 1 t) := by unfold Hid; rw [HWO.out, hw, if_neg h12]; rfl
                clear hw h12
                obtain ⟨t0, hi, hz0, hz1, hz2⟩ := info_parts Tryz.info_token
                obtain ⟨pv, cv, rfl⟩ := own_slice HS8.out.row
                by_cases hmm : l.length = 600
                · have hm' : 600 ≤ (l.length : Int) := by omega
                  have HR : Hid (scanOf s = ([], 2, (k : Int))) := by rw [← HG.out]; exact scanGo_many hlt HSTEP.out hmm
                  have y0 : W8.cell? ⟨w.heap.size, 0, none⟩ = some (.int .i64 0) := (HS8.out.below.cell (p := ⟨w.heap.size, 0, none⟩) HLK.out).trans HF0.out
                  go_wp2_with (fail)
                  refine (failF_calls 2 k W1.heap.size _ HS8.out.box.cell).mono ?_
                  rintro e' wf ⟨rfl, hbf⟩
                  have HNW : Hid (W1.heap.size ≤ W8.heap.size) := HS8.out.below.size
                  have HSf : Hid (Scn W1.heap.size W1 wf W1.heap.size k (.slice pv l.length cv) l) := HS8.out.sub HNW.out hbf
                  have q0 : wf.frozen? ⟨w.heap.size, 0, none⟩ = false := (HSf.out.below.frozen (p := ⟨w.heap.size, 0, none⟩) HLK.out).trans (HFR.out 0)
                  have q1 : wf.frozen? ⟨w.heap.size, 1, none⟩ = false := (HSf.out.below.frozen (p := ⟨w.heap.size, 1, none⟩) HLK.out).trans (HFR.out 1)
                  have x0 : wf.cell? ⟨w.heap.size, 0, none⟩ = some (.int .i64 0) := (HSf.out.below.cell (p := ⟨w.heap.size, 0, none⟩) HLK.out).trans HF0.out
                  have x1 : wf.cell? ⟨w.heap.size, 1, none⟩ = some (.int .i64 0) := (HSf.out.below.cell (p := ⟨w.heap.size, 1, none⟩) HLK.out).trans HF1.out
                  clear y0 hbf
                  go_wp2
                  refine bodyPost_ret (v := .tuple #[.slice none 0 0, .agg #[.int .i64 2, .int .i64 k]]) ?_ rfl ⟨_, by rw [HR.out], ?_, ?_⟩
                  · obtain ⟨g0, g1⟩ := fault_cells x0 x1 (.int .i64 2) (.int .i64 k)
                    simp [results, Tryz.results144, go_sem, g0, g1]
                  · rw [HR.out]
                    exact nilT _
                  · exact ((HW1.out.trans (HSf.out.below.mono HW1.out.size)).setCell (Nat.le_refl _) _).setCell (Nat.le_refl _) _
                · have hm' : ¬ 600 ≤ (l.length : Int) := by omega
                  have HSK : Hid (scanGo s f (k + t.size) (l ++ [(1, (k : Int), t)]) = scanOf s) := by rw [← HG.out]; exact (scanGo_tok hlt HSTEP.out hmm).symm
                  have HNW : Hid (W1.heap.size ≤ W8.heap.size) := HS8.out.below.size
                  have hnw := HNW.out
                  go_wp2_with (at_builtin; refine wpList_append_own_at _ rfl _ _ 79 rfl W1.heap.size 153 t0 (.agg #[.int .i64 0, .int .i64 0, .string ByteArray.empty]) 3 32 Tryz.underlying79 hi hz0 hz1 hz2 rfl (by decide) _ _ _ rfl (HS8.out.row.alloc _) ⟨W8.heap.size, 0, none⟩ 1 1 (tokCells (1, (k : Int), t)) rfl rfl ?c1 ?c2 ?c3 ?c4 ?c5 ?_)
                  case c1 =>
                   intro j u hj
                   match j, hj with
                   | 0, hj => simp [tokCells] at hj; subst hj; simp [Addr.add]
                   | 1, hj => simp [tokCells] at hj; subst hj; simp [Addr.add]
                   | 2, hj => simp [tokCells] at hj; subst hj; simp [Addr.add]
                  case c2 => intro u hu; simp [tokCells] at hu; rcases hu with rfl | rfl | rfl <;> rfl
                  case c3 => unfold maxLen; omega
                  case c4 => omega
                  case c5 => first | omega | (simp; omega)
                  · intro v' wa hown' hgrow _ hob
                    have HSa : Hid (Scn W1.heap.size W1 wa W1.heap.size k v' (l ++ [(1, (k : Int), t)])) := HS8.out.append HNW.out _ _ hown' hgrow hob
                    have HTa : Hid (TokBox wa wo.heap.size 1 k t) := HT8.out.append HNE.out.2 _ hgrow
                    clear hown' hgrow hob
                    have c0wa := HTa.out.cell0
                    have c1wa := HTa.out.cell1
                    have c2wa := HTa.out.cell2
                    have fwa := HTa.out.free
                    have bwa := HSa.out.box.cell
                    have bfwa := HSa.out.box.free
                    obtain ⟨Wb, eWb⟩ : ∃ Wb, wa.setCell ⟨W1.heap.size, 0, none⟩ (.int .i64 ((k : Int) + (t.size : Int))) = Wb := ⟨_, rfl⟩
                    have HSb : Hid (Scn W1.heap.size W1 Wb W1.heap.size ((k : Int) + (t.size : Int)) v' (l ++ [(1, (k : Int), t)])) := by rw [← eWb]; exact HSa.out.setAt _
                    have HTS : Hid (k + t.size ≤ s.size ∧ 0 < t.size) := HTZ.out
                    have hbd : (k : Int) + (t.size : Int) ≤ 4000 := by have := HTZ.out; omega
                    go_wp2
                    go_roundw
                    case rel => exact ⟨k + t.size, f, _, v', _, rfl, rfl, HTS.out.1, by have := HTS.out.2; omega, HSb.out, by rw [List.length_append]; simp; omega, HSK⟩
                    case measure =>
                     have h1 := placeAt_box (k := k + t.size) HSb.out.box
                     have h2 := HPL.out
                     have h3 := HTS.out
                     simp [h1, h2]
                     omega
          | false =>
            have HLE := Hd hle
            clear hle
            cases hdi : digitB (s[k].toNat) with
            | true =>
              have HDI := Hd hdi
              clear hdi
              obtain ⟨e, ee⟩ : ∃ e, runEnd digitB s k = e := ⟨_, rfl⟩
              have he2 : e ≤ s.size := by rw [← ee]; exact runEnd_le (by omega)
              have he1 : k < e := by
               rw [← ee, runEnd_step hlt (HDI.out)]
               exact runEnd_ge _ _ _
              obtain ⟨t, et⟩ : ∃ t, s.extract k e = t := ⟨_, rfl⟩
              have ht : t.size = e - k := by rw [← et, ByteArray.size_extract]; omega
              obtain ⟨TL, eTL⟩ : ∃ TL : Txt, (⟨(Lib.trimLeftS rest.data.toList (figuresB)).toArray⟩ : Txt) = TL := ⟨_, rfl⟩
              have hTL : rest.size - TL.size = t.size := by
               have h1 := trim_run (q := digitB) (s := s) (a := k) (cut := figuresB) figures_mem
               have h2 : TL.size = (Lib.trimLeftS (restOf s k) (figuresB)).length := by rw [← eTL, HRB.out]; exact List.size_toArray
               rw [h2, HRS.out, h1, ee, ht]
              have hTL2 : TL.size ≤ rest.size := by
               rw [← eTL, HRB.out]
               show ((Lib.trimLeftS (restOf s k) (figuresB)).toArray).size ≤ _
               rw [List.size_toArray, HRS.out, ← rest_size]
               unfold Lib.trimLeftS
               exact (List.dropWhile_suffix _).length_le
              have hsub : (rest.size : Int) - (TL.size : Int) = (t.size : Int) := by omega
              have hcut : rest.extract 0 t.size = t := by
               have := cut_run (q := digitB) (s := s) (a := k) (by omega)
               rw [ee, et, ← ht, er] at this
               exact this
              have HET : Hid (s.extract k (runEnd digitB s k) = t) := by unfold Hid; rw [ee, et]
              have HTZ : Hid (k + t.size ≤ s.size ∧ 0 < t.size) := ⟨by omega, by omega⟩
              have HTR : Hid (∀ (W : World) (P : Txt), P.data.toList = figuresB → 2 ≤ P.size → P.size < 4294967281 → Calls Tryz.prog 196 #[.string rest, .string P] W fun e' w'' => e' = .returned (.string TL) ∧ w'' = (W.alloc (.cells (Lib.setCells (figuresB)) 216)).alloc (.cells (Lib.setCells (figuresB)) 216)) := fun W P hp h1 h2 => by
               have := trimLeft_calls rest P W h1 h2 (by rw [hp]; exact ascii_of_all (by decide +kernel)) (by have := HRS.out; omega) (T := TL) (by rw [hp]; exact eTL)
               rw [hp] at this
               exact this
              have htr : TL.size ≤ 4000 := by omega
              have hr0 : (0 : Int) ≤ (t.size : Int) := by omega
              have hr1 : (t.size : Int) ≤ (rest.size : Int) := by omega
              clear ee et eTL ht he1 he2 hTL
              have HWO : Hid (stepOf s k (s[k].toNat) = if 9 < t.size then .bad 3 else if s[k] = 48 ∧ t ≠ ⟨#[48]⟩ then .bad 3 else .tok 2 t) := tok_num hlt HB.out H35.out HLE.out HDI.out HET.out
              have HCI48 := Hd (HCI.out 48)
              obtain ⟨WA, eWA⟩ : ∃ WA, (W6.drew.alloc (.cells (Lib.setCells figuresB) 216)).alloc (.cells (Lib.setCells figuresB) 216) = WA := ⟨_, rfl⟩
              have hbA : Below W6.heap.size W6 WA := by rw [← eWA]; exact ((Below.refl _ _).drew.alloc (Nat.le_refl _) _).alloc (by simp) _
              have HN6 : Hid (W1.heap.size ≤ W6.heap.size) := HS6.out.below.size
              have HTA : Hid (TokBox WA wo.heap.size 0 k ⟨#[]⟩) := HTB.out.below hbA
              have HSA : Hid (Scn W1.heap.size W1 WA W1.heap.size k v l) := HS6.out.sub HN6.out hbA
              have HEWA := Hd eWA
              have hwr : IntKind.i64.wrap (t.size : Int) = (t.size : Int) := by rw [IntKind.wrap_i64]; omega
              have HTRD : Hid (∀ W : World, Calls Tryz.prog 196 #[.string rest, .string ⟨#[48,49,50,51,52,53,54,55,56,57]⟩] W fun e' w'' => e' = .returned (.string TL) ∧ w'' = (W.alloc (.cells (Lib.setCells figuresB) 216)).alloc (.cells (Lib.setCells figuresB) 216)) := fun W => HTR.out W _ (by kernel_rfl) (by decide +kernel) (by decide +kernel)
              clear hbA
              go_wp2_with (fail)
              refine (Tryz.strings_Contains _ _ mx _ ?hs (HMW.out _ HS6.out.below)).mono ?_
              case hs => decide +kernel
              rintro e' wx ⟨rfl, hwx⟩
              obtain rfl := hwx.symm
              rw [HHC.out lettersB _ ?hp]
              case hp => kernel_rfl
              rw [(letters_mem s[k]).trans HLE.out]
              go_wp2_with (fail)
              refine (Tryz.strings_Contains _ _ mx _ ?hs (HMW.out _ HS6.out.below)).mono ?_
              case hs => decide +kernel
              rintro e' wx ⟨rfl, hwx⟩
              obtain rfl := hwx.symm
              rw [HHC.out figuresB _ ?hp]
              case hp => kernel_rfl
              rw [(figures_mem s[k]).trans HDI.out]
              have c0WA := HTA.out.cell0
              have c1WA := HTA.out.cell1
              have c2WA := HTA.out.cell2
              have fWA := HTA.out.free
              have bWA := HSA.out.box.cell
              have bfWA := HSA.out.box.free
              obtain ⟨W7, eW7⟩ : ∃ W7, WA.setCell ⟨wo.heap.size, 0, none⟩ (.int .i64 2) = W7 := ⟨_, rfl⟩
              have HT7 : Hid (TokBox W7 wo.heap.size 2 k ⟨#[]⟩) := by rw [← eW7]; exact HTA.out.set0 _
              have HS7 : Hid (Scn W1.heap.size W1 W7 W1.heap.size k v l) := by rw [← eW7]; exact HSA.out.other HN.out HNE.out.1 HNE.out.2 _
              have c0W7 := HT7.out.cell0
              have c1W7 := HT7.out.cell1
              have c2W7 := HT7.out.cell2
              have fW7 := HT7.out.free
              have bW7 := HS7.out.box.cell
              have bfW7 := HS7.out.box.free
              obtain ⟨W8, eW8⟩ : ∃ W8, W7.setCell ⟨wo.heap.size, 2, none⟩ (.string t) = W8 := ⟨_, rfl⟩
              have HT8 : Hid (TokBox W8 wo.heap.size 2 k t) := by rw [← eW8]; exact HT7.out.set2 _
              have HS8 : Hid (Scn W1.heap.size W1 W8 W1.heap.size k v l) := by rw [← eW8]; exact HS7.out.other HN.out HNE.out.1 HNE.out.2 _
              have c0W8 := HT8.out.cell0
              have c1W8 := HT8.out.cell1
              have c2W8 := HT8.out.cell2
              have fW8 := HT8.out.free
              have bW8 := HS8.out.box.cell
              have bfW8 := HS8.out.box.free
              go_wp2
              apply wp_cut (W := W8)
              · go_region_with (go_at_call 196; refine (HTRD.out _).mono ?_; rintro e' wx ⟨rfl, rfl⟩; rw [HEWA.out])
                all_goals exact ⟨rfl, rfl⟩
              · by_cases h9t : 9 < t.size
                · have h9i : 9 < (t.size : Int) := by omega
                  have HBAD : Hid (stepOf s k (s[k].toNat) = .bad 3) := by unfold Hid; rw [HWO.out, if_pos h9t]
                  have HR : Hid (scanOf s = ([], 3, (k : Int))) := by rw [← HG.out]; exact scanGo_bad hlt HBAD.out
                  clear h9t
                  have y0 : W8.cell? ⟨w.heap.size, 0, none⟩ = some (.int .i64 0) := (HS8.out.below.cell (p := ⟨w.heap.size, 0, none⟩) HLK.out).trans HF0.out
                  go_wp2_with (fail)
                  refine (failF_calls 3 k W1.heap.size _ HS8.out.box.cell).mono ?_
                  rintro e' wf ⟨rfl, hbf⟩
                  have HNW : Hid (W1.heap.size ≤ W8.heap.size) := HS8.out.below.size
                  have HSf : Hid (Scn W1.heap.size W1 wf W1.heap.size k v l) := HS8.out.sub HNW.out hbf
                  have q0 : wf.frozen? ⟨w.heap.size, 0, none⟩ = false := (HSf.out.below.frozen (p := ⟨w.heap.size, 0, none⟩) HLK.out).trans (HFR.out 0)
                  have q1 : wf.frozen? ⟨w.heap.size, 1, none⟩ = false := (HSf.out.below.frozen (p := ⟨w.heap.size, 1, none⟩) HLK.out).trans (HFR.out 1)
                  have x0 : wf.cell? ⟨w.heap.size, 0, none⟩ = some (.int .i64 0) := (HSf.out.below.cell (p := ⟨w.heap.size, 0, none⟩) HLK.out).trans HF0.out
                  have x1 : wf.cell? ⟨w.heap.size, 1, none⟩ = some (.int .i64 0) := (HSf.out.below.cell (p := ⟨w.heap.size, 1, none⟩) HLK.out).trans HF1.out
                  clear y0 hbf
                  go_wp2
                  refine bodyPost_ret (v := .tuple #[.slice none 0 0, .agg #[.int .i64 3, .int .i64 k]]) ?_ rfl ⟨_, by rw [HR.out], ?_, ?_⟩
                  · obtain ⟨g0, g1⟩ := fault_cells x0 x1 (.int .i64 3) (.int .i64 k)
                    simp [results, Tryz.results144, go_sem, g0, g1]
                  · rw [HR.out]
                    exact nilT _
                  · exact ((HW1.out.trans (HSf.out.below.mono HW1.out.size)).setCell (Nat.le_refl _) _).setCell (Nat.le_refl _) _
                · have h9i : ¬ 9 < (t.size : Int) := by omega
                  by_cases h48 : s[k] = 48
                  · have hc48 : c = ⟨#[48]⟩ := HCI48.out.2 h48
                    have qc : (c.toList == [48]) = true := by rw [hc48, Lib.toList_data]; rfl
                    by_cases hz : t = ⟨#[48]⟩
                    · have qd : (t.toList == [48]) = true := by rw [hz, Lib.toList_data]; rfl
                      have qd2 : (t.toList != [48]) = false := by rw [bne, qd]; rfl
                      have HSTEP : Hid (stepOf s k (s[k].toNat) = .tok 2 t) := by unfold Hid; rw [HWO.out, if_neg h9t, if_neg (fun h => h.2 hz)]
                      clear h9t h48 hz hc48
                      obtain ⟨t0, hi, hz0, hz1, hz2⟩ := info_parts Tryz.info_token
                      obtain ⟨pv, cv, rfl⟩ := own_slice HS8.out.row
                      by_cases hmm : l.length = 600
                      · have hm' : 600 ≤ (l.length : Int) := by omega
                        have HR : Hid (scanOf s = ([], 2, (k : Int))) := by rw [← HG.out]; exact scanGo_many hlt HSTEP.out hmm
                        have y0 : W8.cell? ⟨w.heap.size, 0, none⟩ = some (.int .i64 0) := (HS8.out.below.cell (p := ⟨w.heap.size, 0, none⟩) HLK.out).trans HF0.out
                        go_wp2_with (fail)
                        refine (failF_calls 2 k W1.heap.size _ HS8.out.box.cell).mono ?_
                        rintro e' wf ⟨rfl, hbf⟩
                        have HNW : Hid (W1.heap.size ≤ W8.heap.size) := HS8.out.below.size
                        have HSf : Hid (Scn W1.heap.size W1 wf W1.heap.size k (.slice pv l.length cv) l) := HS8.out.sub HNW.out hbf
                        have q0 : wf.frozen? ⟨w.heap.size, 0, none⟩ = false := (HSf.out.below.frozen (p := ⟨w.heap.size, 0, none⟩) HLK.out).trans (HFR.out 0)
                        have q1 : wf.frozen? ⟨w.heap.size, 1, none⟩ = false := (HSf.out.below.frozen (p := ⟨w.heap.size, 1, none⟩) HLK.out).trans (HFR.out 1)
                        have x0 : wf.cell? ⟨w.heap.size, 0, none⟩ = some (.int .i64 0) := (HSf.out.below.cell (p := ⟨w.heap.size, 0, none⟩) HLK.out).trans HF0.out
                        have x1 : wf.cell? ⟨w.heap.size, 1, none⟩ = some (.int .i64 0) := (HSf.out.below.cell (p := ⟨w.heap.size, 1, none⟩) HLK.out).trans HF1.out
                        clear y0 hbf
                        go_wp2
                        refine bodyPost_ret (v := .tuple #[.slice none 0 0, .agg #[.int .i64 2, .int .i64 k]]) ?_ rfl ⟨_, by rw [HR.out], ?_, ?_⟩
                        · obtain ⟨g0, g1⟩ := fault_cells x0 x1 (.int .i64 2) (.int .i64 k)
                          simp [results, Tryz.results144, go_sem, g0, g1]
                        · rw [HR.out]
                          exact nilT _
                        · exact ((HW1.out.trans (HSf.out.below.mono HW1.out.size)).setCell (Nat.le_refl _) _).setCell (Nat.le_refl _) _
                      · have hm' : ¬ 600 ≤ (l.length : Int) := by omega
                        have HSK : Hid (scanGo s f (k + t.size) (l ++ [(2, (k : Int), t)]) = scanOf s) := by rw [← HG.out]; exact (scanGo_tok hlt HSTEP.out hmm).symm
                        have HNW : Hid (W1.heap.size ≤ W8.heap.size) := HS8.out.below.size
                        have hnw := HNW.out
                        go_wp2_with (at_builtin; refine wpList_append_own_at _ rfl _ _ 79 rfl W1.heap.size 153 t0 (.agg #[.int .i64 0, .int .i64 0, .string ByteArray.empty]) 3 32 Tryz.underlying79 hi hz0 hz1 hz2 rfl (by decide) _ _ _ rfl (HS8.out.row.alloc _) ⟨W8.heap.size, 0, none⟩ 1 1 (tokCells (2, (k : Int), t)) rfl rfl ?c1 ?c2 ?c3 ?c4 ?c5 ?_)
                        case c1 =>
                         intro j u hj
                         match j, hj with
                         | 0, hj => simp [tokCells] at hj; subst hj; simp [Addr.add]
                         | 1, hj => simp [tokCells] at hj; subst hj; simp [Addr.add]
                         | 2, hj => simp [tokCells] at hj; subst hj; simp [Addr.add]
                        case c2 => intro u hu; simp [tokCells] at hu; rcases hu with rfl | rfl | rfl <;> rfl
                        case c3 => unfold maxLen; omega
                        case c4 => omega
                        case c5 => first | omega | (simp; omega)
                        · intro v' wa hown' hgrow _ hob
                          have HSa : Hid (Scn W1.heap.size W1 wa W1.heap.size k v' (l ++ [(2, (k : Int), t)])) := HS8.out.append HNW.out _ _ hown' hgrow hob
                          have HTa : Hid (TokBox wa wo.heap.size 2 k t) := HT8.out.append HNE.out.2 _ hgrow
                          clear hown' hgrow hob
                          have c0wa := HTa.out.cell0
                          have c1wa := HTa.out.cell1
                          have c2wa := HTa.out.cell2
                          have fwa := HTa.out.free
                          have bwa := HSa.out.box.cell
                          have bfwa := HSa.out.box.free
                          obtain ⟨Wb, eWb⟩ : ∃ Wb, wa.setCell ⟨W1.heap.size, 0, none⟩ (.int .i64 ((k : Int) + (t.size : Int))) = Wb := ⟨_, rfl⟩
                          have HSb : Hid (Scn W1.heap.size W1 Wb W1.heap.size ((k : Int) + (t.size : Int)) v' (l ++ [(2, (k : Int), t)])) := by rw [← eWb]; exact HSa.out.setAt _
                          have HTS : Hid (k + t.size ≤ s.size ∧ 0 < t.size) := HTZ.out
                          have hbd : (k : Int) + (t.size : Int) ≤ 4000 := by have := HTZ.out; omega
                          go_wp2
                          go_roundw
                          case rel => exact ⟨k + t.size, f, _, v', _, rfl, rfl, HTS.out.1, by have := HTS.out.2; omega, HSb.out, by rw [List.length_append]; simp; omega, HSK⟩
                          case measure =>
                           have h1 := placeAt_box (k := k + t.size) HSb.out.box
                           have h2 := HPL.out
                           have h3 := HTS.out
                           simp [h1, h2]
                           omega
                    · have qd : (t.toList == [48]) = false := by
                       cases e : (t.toList == [48]) with
                       | false => rfl
                       | true => exact absurd (txt_ext (show bytesOf t = _ by rw [Lib.toList_data] at e; exact eq_of_beq e)) hz
                      have qd2 : (t.toList != [48]) = true := by rw [bne, qd]; rfl
                      have HBAD : Hid (stepOf s k (s[k].toNat) = .bad 3) := by unfold Hid; rw [HWO.out, if_neg h9t, if_pos ⟨h48, hz⟩]
                      have HR : Hid (scanOf s = ([], 3, (k : Int))) := by rw [← HG.out]; exact scanGo_bad hlt HBAD.out
                      clear h9t h48 hz hc48
                      have y0 : W8.cell? ⟨w.heap.size, 0, none⟩ = some (.int .i64 0) := (HS8.out.below.cell (p := ⟨w.heap.size, 0, none⟩) HLK.out).trans HF0.out
                      go_wp2_with (fail)
                      refine (failF_calls 3 k W1.heap.size _ HS8.out.box.cell).mono ?_
                      rintro e' wf ⟨rfl, hbf⟩
                      have HNW : Hid (W1.heap.size ≤ W8.heap.size) := HS8.out.below.size
                      have HSf : Hid (Scn W1.heap.size W1 wf W1.heap.size k v l) := HS8.out.sub HNW.out hbf
                      have q0 : wf.frozen? ⟨w.heap.size, 0, none⟩ = false := (HSf.out.below.frozen (p := ⟨w.heap.size, 0, none⟩) HLK.out).trans (HFR.out 0)
                      have q1 : wf.frozen? ⟨w.heap.size, 1, none⟩ = false := (HSf.out.below.frozen (p := ⟨w.heap.size, 1, none⟩) HLK.out).trans (HFR.out 1)
                      have x0 : wf.cell? ⟨w.heap.size, 0, none⟩ = some (.int .i64 0) := (HSf.out.below.cell (p := ⟨w.heap.size, 0, none⟩) HLK.out).trans HF0.out
                      have x1 : wf.cell? ⟨w.heap.size, 1, none⟩ = some (.int .i64 0) := (HSf.out.below.cell (p := ⟨w.heap.size, 1, none⟩) HLK.out).trans HF1.out
                      clear y0 hbf
                      go_wp2
                      refine bodyPost_ret (v := .tuple #[.slice none 0 0, .agg #[.int .i64 3, .int .i64 k]]) ?_ rfl ⟨_, by rw [HR.out], ?_, ?_⟩
                      · obtain ⟨g0, g1⟩ := fault_cells x0 x1 (.int .i64 3) (.int .i64 k)
                        simp [results, Tryz.results144, go_sem, g0, g1]
                      · rw [HR.out]
                        exact nilT _
                      · exact ((HW1.out.trans (HSf.out.below.mono HW1.out.size)).setCell (Nat.le_refl _) _).setCell (Nat.le_refl _) _
                  · have hc48 : ¬ c = ⟨#[48]⟩ := fun e => h48 (HCI48.out.1 e)
                    have qc : (c.toList == [48]) = false := by
                     cases e : (c.toList == [48]) with
                     | false => rfl
                     | true => exact absurd (txt_ext (show bytesOf c = _ by rw [Lib.toList_data] at e; exact eq_of_beq e)) hc48
                    have HSTEP : Hid (stepOf s k (s[k].toNat) = .tok 2 t) := by unfold Hid; rw [HWO.out, if_neg h9t, if_neg (fun h => h48 h.1)]
                    clear h9t h48 hc48
                    obtain ⟨t0, hi, hz0, hz1, hz2⟩ := info_parts Tryz.info_token
                    obtain ⟨pv, cv, rfl⟩ := own_slice HS8.out.row
                    by_cases hmm : l.length = 600
                    · have hm' : 600 ≤ (l.length : Int) := by omega
                      have HR : Hid (scanOf s = ([], 2, (k : Int))) := by rw [← HG.out]; exact scanGo_many hlt HSTEP.out hmm
                      have y0 : W8.cell? ⟨w.heap.size, 0, none⟩ = some (.int .i64 0) := (HS8.out.below.cell (p := ⟨w.heap.size, 0, none⟩) HLK.out).trans HF0.out
                      go_wp2_with (fail)
                      refine (failF_calls 2 k W1.heap.size _ HS8.out.box.cell).mono ?_
                      rintro e' wf ⟨rfl, hbf⟩
                      have HNW : Hid (W1.heap.size ≤ W8.heap.size) := HS8.out.below.size
                      have HSf : Hid (Scn W1.heap.size W1 wf W1.heap.size k (.slice pv l.length cv) l) := HS8.out.sub HNW.out hbf
                      have q0 : wf.frozen? ⟨w.heap.size, 0, none⟩ = false := (HSf.out.below.frozen (p := ⟨w.heap.size, 0, none⟩) HLK.out).trans (HFR.out 0)
                      have q1 : wf.frozen? ⟨w.heap.size, 1, none⟩ = false := (HSf.out.below.frozen (p := ⟨w.heap.size, 1, none⟩) HLK.out).trans (HFR.out 1)
                      have x0 : wf.cell? ⟨w.heap.size, 0, none⟩ = some (.int .i64 0) := (HSf.out.below.cell (p := ⟨w.heap.size, 0, none⟩) HLK.out).trans HF0.out
                      have x1 : wf.cell? ⟨w.heap.size, 1, none⟩ = some (.int .i64 0) := (HSf.out.below.cell (p := ⟨w.heap.size, 1, none⟩) HLK.out).trans HF1.out
                      clear y0 hbf
                      go_wp2
                      refine bodyPost_ret (v := .tuple #[.slice none 0 0, .agg #[.int .i64 2, .int .i64 k]]) ?_ rfl ⟨_, by rw [HR.out], ?_, ?_⟩
                      · obtain ⟨g0, g1⟩ := fault_cells x0 x1 (.int .i64 2) (.int .i64 k)
                        simp [results, Tryz.results144, go_sem, g0, g1]
                      · rw [HR.out]
                        exact nilT _
                      · exact ((HW1.out.trans (HSf.out.below.mono HW1.out.size)).setCell (Nat.le_refl _) _).setCell (Nat.le_refl _) _
                    · have hm' : ¬ 600 ≤ (l.length : Int) := by omega
                      have HSK : Hid (scanGo s f (k + t.size) (l ++ [(2, (k : Int), t)]) = scanOf s) := by rw [← HG.out]; exact (scanGo_tok hlt HSTEP.out hmm).symm
                      have HNW : Hid (W1.heap.size ≤ W8.heap.size) := HS8.out.below.size
                      have hnw := HNW.out
                      go_wp2_with (at_builtin; refine wpList_append_own_at _ rfl _ _ 79 rfl W1.heap.size 153 t0 (.agg #[.int .i64 0, .int .i64 0, .string ByteArray.empty]) 3 32 Tryz.underlying79 hi hz0 hz1 hz2 rfl (by decide) _ _ _ rfl (HS8.out.row.alloc _) ⟨W8.heap.size, 0, none⟩ 1 1 (tokCells (2, (k : Int), t)) rfl rfl ?c1 ?c2 ?c3 ?c4 ?c5 ?_)
                      case c1 =>
                       intro j u hj
                       match j, hj with
                       | 0, hj => simp [tokCells] at hj; subst hj; simp [Addr.add]
                       | 1, hj => simp [tokCells] at hj; subst hj; simp [Addr.add]
                       | 2, hj => simp [tokCells] at hj; subst hj; simp [Addr.add]
                      case c2 => intro u hu; simp [tokCells] at hu; rcases hu with rfl | rfl | rfl <;> rfl
                      case c3 => unfold maxLen; omega
                      case c4 => omega
                      case c5 => first | omega | (simp; omega)
                      · intro v' wa hown' hgrow _ hob
                        have HSa : Hid (Scn W1.heap.size W1 wa W1.heap.size k v' (l ++ [(2, (k : Int), t)])) := HS8.out.append HNW.out _ _ hown' hgrow hob
                        have HTa : Hid (TokBox wa wo.heap.size 2 k t) := HT8.out.append HNE.out.2 _ hgrow
                        clear hown' hgrow hob
                        have c0wa := HTa.out.cell0
                        have c1wa := HTa.out.cell1
                        have c2wa := HTa.out.cell2
                        have fwa := HTa.out.free
                        have bwa := HSa.out.box.cell
                        have bfwa := HSa.out.box.free
                        obtain ⟨Wb, eWb⟩ : ∃ Wb, wa.setCell ⟨W1.heap.size, 0, none⟩ (.int .i64 ((k : Int) + (t.size : Int))) = Wb := ⟨_, rfl⟩
                        have HSb : Hid (Scn W1.heap.size W1 Wb W1.heap.size ((k : Int) + (t.size : Int)) v' (l ++ [(2, (k : Int), t)])) := by rw [← eWb]; exact HSa.out.setAt _
                        have HTS : Hid (k + t.size ≤ s.size ∧ 0 < t.size) := HTZ.out
                        have hbd : (k : Int) + (t.size : Int) ≤ 4000 := by have := HTZ.out; omega
                        go_wp2
                        go_roundw
                        case rel => exact ⟨k + t.size, f, _, v', _, rfl, rfl, HTS.out.1, by have := HTS.out.2; omega, HSb.out, by rw [List.length_append]; simp; omega, HSK⟩
                        case measure =>
                         have h1 := placeAt_box (k := k + t.size) HSb.out.box
                         have h2 := HPL.out
                         have h3 := HTS.out
                         simp [h1, h2]
                         omega
            | false =>
              have HDI := Hd hdi
              clear hdi
              have HWO : Hid (stepOf s k (s[k].toNat) = if longest (restOf s k) signsL = ⟨#[]⟩ then .bad 1 else .tok 4 (longest (restOf s k) signsL)) := tok_sign hlt HB.out H35.out HLE.out HDI.out
              have HSF : Hid (∀ x ∈ signsL, signAt s k x = true → x.size ≤ s.size - k ∧ 0 < x.size) := fun x hx h => sign_fits (by omega) h hx
              go_wp2_with (fail)
              refine (Tryz.strings_Contains _ _ mx _ ?hs (HMW.out _ HS6.out.below)).mono ?_
              case hs => decide +kernel
              rintro e' wx ⟨rfl, hwx⟩
              obtain rfl := hwx.symm
              rw [HHC.out lettersB _ ?hp]
              case hp => kernel_rfl
              rw [(letters_mem s[k]).trans HLE.out]
              go_wp2_with (fail)
              refine (Tryz.strings_Contains _ _ mx _ ?hs (HMW.out _ HS6.out.below)).mono ?_
              case hs => decide +kernel
              rintro e' wx ⟨rfl, hwx⟩
              obtain rfl := hwx.symm
              rw [HHC.out figuresB _ ?hp]
              case hp => kernel_rfl
              rw [(figures_mem s[k]).trans HDI.out]
              obtain ⟨W7, eW7⟩ : ∃ W7, W6.setCell ⟨wo.heap.size, 0, none⟩ (.int .i64 4) = W7 := ⟨_, rfl⟩
              have HT7 : Hid (TokBox W7 wo.heap.size 4 k ⟨#[]⟩) := by rw [← eW7]; exact HTB.out.set0 _
              have HS7 : Hid (Scn W1.heap.size W1 W7 W1.heap.size k v l) := by rw [← eW7]; exact HS6.out.other HN.out HNE.out.1 HNE.out.2 _
              have c0W7 := HT7.out.cell0
              have c1W7 := HT7.out.cell1
              have c2W7 := HT7.out.cell2
              have fW7 := HT7.out.free
              have bW7 := HS7.out.box.cell
              have bfW7 := HS7.out.box.free
              have HFI : Hid (∀ (W : World) (P : Txt), P = signsText → Lib.TabIs Tryz.prog W "strings.asciiSpace" .u8 Lib.asciiSpaceTab → Calls Tryz.prog 65 #[.string P] W fun e' w'' => e' = .returned (.slice (some ⟨W.heap.size, 0, none⟩) 22 22) ∧ w'' = W.alloc (.cells signCells 9)) := fun W P hp ht => by
               subst hp
               have := Tryz.strings_Fields_laid signsText W (by decide +kernel) (ascii_of_all (by decide +kernel)) ht
               have e1 : (Lib.fields signsText.data.toList).length = 22 := by decide +kernel
               have e2 : ((Lib.fields signsText.data.toList).map fun l => Value.string ⟨l.toArray⟩).toArray = signCells := by
                unfold signCells
                rw [← signs_fields, List.map_map]
                rfl
               rw [e1, e2] at this
               exact this
              go_wp2_with (fail)
              refine (HFI.out _ _ ?hp (HTW.out _ HS7.out.below)).mono ?_
              case hp => kernel_rfl
              rintro e' w8 ⟨rfl, rfl⟩
              obtain ⟨W8, eW8⟩ : ∃ W8, W7.alloc (.cells signCells 9) = W8 := ⟨_, rfl⟩
              have hb8 : Below W7.heap.size W7 W8 := by rw [← eW8]; exact (Below.refl _ _).alloc (Nat.le_refl _) _
              have HN7 : Hid (W1.heap.size ≤ W7.heap.size) := HS7.out.below.size
              have HT8 : Hid (TokBox W8 wo.heap.size 4 k ⟨#[]⟩) := HT7.out.below hb8
              have HS8 : Hid (Scn W1.heap.size W1 W8 W1.heap.size k v l) := HS7.out.sub HN7.out hb8
              have HX8 : Hid (∀ j (hj : j < 22), W8.cell? ⟨W7.heap.size, j, none⟩ = some (.string (signsL[j]'hj))) := fun j hj => by
               rw [← eW8]
               refine (alloc_cell_new _ _ _ _ _ rfl).trans ?_
               unfold signCells
               rw [List.getElem?_toArray, List.getElem?_map, List.getElem?_eq_getElem (show j < signsL.length from hj)]
               rfl
              have HTL7 : Hid (wo.heap.size ≠ W7.heap.size ∧ W1.heap.size ≠ W7.heap.size) := ⟨by have := HT7.out.lt; omega, by have := HS7.out.box.lt; omega⟩
              rw [eW8]
              clear hb8 eW8
              go_wp2
              go_loopw [48] (fun i ws => ∃ (j : Nat) (wi : World), j ≤ 22 ∧ i = .int .i64 j ∧ wi = ws ∧ Hid (TokBox wi wo.heap.size 4 k ((signsL.take j).foldl (longer (restOf s k)) ⟨#[]⟩)) ∧ Hid (Scn W1.heap.size W1 wi W1.heap.size k v l) ∧ Hid (∀ j (hj : j < 22), wi.cell? ⟨W7.heap.size, j, none⟩ = some (.string (signsL[j]'hj)))) (fun i _ => 22 - (intOf i).toNat)
              case atStart => exact ⟨0, _, Nat.zero_le _, rfl, rfl, HT8.out, HS8.out, HX8.out⟩
              case round =>
               obtain ⟨j, wi, hj, rfl, rfl, HTI, HSI, HXI⟩ := hrel
               by_cases hltj : j < 22
               · have hcell := HXI.out j hltj
                 have HST : Hid (((signsL.take (j + 1)).foldl (longer (restOf s k)) ⟨#[]⟩) = longer (restOf s k) ((signsL.take j).foldl (longer (restOf s k)) ⟨#[]⟩) (signsL[j]'hltj)) := by
                  unfold Hid
                  rw [List.take_succ_eq_append_getElem (show j < signsL.length from hltj), List.foldl_append]
                  rfl
                 have hsz : ∀ x ∈ signsL, x.size ≤ 2 := by decide +kernel
                 have hsj := hsz _ (List.getElem_mem (show j < signsL.length from hltj))
                 generalize hT : (signsL.take j).foldl (longer (restOf s k)) ⟨#[]⟩ = T at *
                 generalize hX : (signsL[j]'hltj) = X at *
                 have HHP : Hid (Lib.hasPrefix rest.data.toList X.data.toList = Lib.hasPrefix (restOf s k) X.data.toList) := by unfold Hid; rw [HRB.out]
                 have c0wi := HTI.out.cell0
                 have c1wi := HTI.out.cell1
                 have c2wi := HTI.out.cell2
                 have fwi := HTI.out.free
                 have bwi := HSI.out.box.cell
                 have bfwi := HSI.out.box.free
                 clear hsz hT
                 cases hp : Lib.hasPrefix (restOf s k) X.data.toList with
                 | false =>
                   have HL : Hid (longer (restOf s k) T X = T) := by unfold Hid longer; rw [hp]; rfl
                   have HP := Hd hp
                   clear hp
                   go_wp2_with (fail)
                   refine (Tryz.strings_HasPrefix _ _ _).mono ?_
                   rintro e' wx ⟨rfl, hwx⟩
                   obtain rfl := hwx.symm
                   rw [HHP.out, HP.out]
                   go_wp2
                   go_roundw
                   case rel => exact ⟨j + 1, _, by omega, by go_num, rfl, by rw [HST.out, HL.out]; exact HTI, HSI, HXI⟩
                   case measure => simp [intOf]; omega
                 | true =>
                   have HP := Hd hp
                   by_cases hlong : T.size < X.size
                   · have hlongi : (T.size : Int) < (X.size : Int) := by omega
                     have HL : Hid (longer (restOf s k) T X = X) := by unfold Hid longer; rw [hp, Bool.true_and, if_pos (by simpa using hlong)]
                     obtain ⟨Wn, eWn⟩ : ∃ Wn, wi.setCell ⟨wo.heap.size, 2, none⟩ (.string X) = Wn := ⟨_, rfl⟩
                     have HTn : Hid (TokBox Wn wo.heap.size 4 k X) := by rw [← eWn]; exact HTI.out.set2 _
                     have HSn : Hid (Scn W1.heap.size W1 Wn W1.heap.size k v l) := by rw [← eWn]; exact HSI.out.other HN.out HNE.out.1 HNE.out.2 _
                     have HXn : Hid (∀ j (hj : j < 22), Wn.cell? ⟨W7.heap.size, j, none⟩ = some (.string (signsL[j]'hj))) := fun j hj => by
                      rw [← eWn]
                      exact (World.cell?_setCell_other _ _ _ _ (by simp only [ne_eq, Addr.mk.injEq, not_and]; intro h; exact absurd h (by have := HTL7.out.1; omega))).trans (HXI.out j hj)
                     clear hp
                     go_wp2_with (fail)
                     refine (Tryz.strings_HasPrefix _ _ _).mono ?_
                     rintro e' wx ⟨rfl, hwx⟩
                     obtain rfl := hwx.symm
                     rw [HHP.out, HP.out]
                     go_wp2
                     go_roundw
                     case rel => exact ⟨j + 1, _, by omega, by go_num, rfl, by rw [HST.out, HL.out]; exact HTn, HSn, HXn⟩
                     case measure => simp [intOf]; omega
                   · have hlongi : ¬ (T.size : Int) < (X.size : Int) := by omega
                     have HL : Hid (longer (restOf s k) T X = T) := by unfold Hid longer; rw [hp, Bool.true_and, if_neg (by simpa using hlong)]
                     clear hp
                     go_wp2_with (fail)
                     refine (Tryz.strings_HasPrefix _ _ _).mono ?_
                     rintro e' wx ⟨rfl, hwx⟩
                     obtain rfl := hwx.symm
                     rw [HHP.out, HP.out]
                     go_wp2
                     go_roundw
                     case rel => exact ⟨j + 1, _, by omega, by go_num, rfl, by rw [HST.out, HL.out]; exact HTI, HSI, HXI⟩
                     case measure => simp [intOf]; omega
               · obtain rfl : j = 22 := by omega
                 have hall : (signsL.take 22).foldl (longer (restOf s k)) ⟨#[]⟩ = longest (restOf s k) signsL := by unfold longest; rw [List.take_of_length_le (by decide)]
                 rw [hall] at HTI
                 have HIN : Hid (longest (restOf s k) signsL = ⟨#[]⟩ ∨ (longest (restOf s k) signsL).size ≤ s.size - k ∧ 0 < (longest (restOf s k) signsL).size) := by
                  unfold Hid longest
                  rw [longest_first signs_size signs_down]
                  have e : signsL.find? (signAt s k) = signsL.find? fun x => Lib.hasPrefix (restOf s k) x.data.toList := rfl
                  rw [← e]
                  cases hf : signsL.find? (signAt s k) with
                  | none => exact .inl rfl
                  | some x => exact .inr (HSF.out x (List.mem_of_find?_eq_some hf) (List.find?_some hf))
                 generalize longest (restOf s k) signsL = t at *
                 have c0wi := HTI.out.cell0
                 have c1wi := HTI.out.cell1
                 have c2wi := HTI.out.cell2
                 have fwi := HTI.out.free
                 have bwi := HSI.out.box.cell
                 have bfwi := HSI.out.box.free
                 clear hall
                 by_cases hte : t = ⟨#[]⟩
                 · have q1 : t.toList = [] := by rw [hte, Lib.toList_data]
                   have q2 : t.toList.isEmpty = true := by rw [q1]; rfl
                   have HBAD : Hid (stepOf s k (s[k].toNat) = .bad 1) := by unfold Hid; rw [HWO.out, if_pos hte]
                   have HR : Hid (scanOf s = ([], 1, (k : Int))) := by rw [← HG.out]; exact scanGo_bad hlt HBAD.out
                   clear hte
                   have y0 : wi.cell? ⟨w.heap.size, 0, none⟩ = some (.int .i64 0) := (HSI.out.below.cell (p := ⟨w.heap.size, 0, none⟩) HLK.out).trans HF0.out
                   go_wp2_with (fail)
                   refine (failF_calls 1 k W1.heap.size _ HSI.out.box.cell).mono ?_
                   rintro e' wf ⟨rfl, hbf⟩
                   have HNW : Hid (W1.heap.size ≤ wi.heap.size) := HSI.out.below.size
                   have HSf : Hid (Scn W1.heap.size W1 wf W1.heap.size k v l) := HSI.out.sub HNW.out hbf
                   have q0 : wf.frozen? ⟨w.heap.size, 0, none⟩ = false := (HSf.out.below.frozen (p := ⟨w.heap.size, 0, none⟩) HLK.out).trans (HFR.out 0)
                   have q1 : wf.frozen? ⟨w.heap.size, 1, none⟩ = false := (HSf.out.below.frozen (p := ⟨w.heap.size, 1, none⟩) HLK.out).trans (HFR.out 1)
                   have x0 : wf.cell? ⟨w.heap.size, 0, none⟩ = some (.int .i64 0) := (HSf.out.below.cell (p := ⟨w.heap.size, 0, none⟩) HLK.out).trans HF0.out
                   have x1 : wf.cell? ⟨w.heap.size, 1, none⟩ = some (.int .i64 0) := (HSf.out.below.cell (p := ⟨w.heap.size, 1, none⟩) HLK.out).trans HF1.out
                   clear y0 hbf
                   go_wp2
                   refine bodyPost_ret (v := .tuple #[.slice none 0 0, .agg #[.int .i64 1, .int .i64 k]]) ?_ rfl ⟨_, by rw [HR.out], ?_, ?_⟩
                   · obtain ⟨g0, g1⟩ := fault_cells x0 x1 (.int .i64 1) (.int .i64 k)
                     simp [results, Tryz.results144, go_sem, g0, g1]
                   · rw [HR.out]
                     exact nilT _
                   · exact ((HW1.out.trans (HSf.out.below.mono HW1.out.size)).setCell (Nat.le_refl _) _).setCell (Nat.le_refl _) _
                 · have hne2 : t.toList ≠ [] := fun e => hte (txt_ext (by rw [Lib.toList_data] at e; exact e))
                   have q1 : ¬ t.toList = [] := hne2
                   have q2 : t.toList.isEmpty = false := by
                    cases h : t.toList with
                    | nil => exact absurd h hne2
                    | cons => rfl
                   have HSTEP : Hid (stepOf s k (s[k].toNat) = .tok 4 t) := by unfold Hid; rw [HWO.out, if_neg hte]
                   have HTZ : Hid (k + t.size ≤ s.size ∧ 0 < t.size) := by
                    rcases HIN.out with h | h
                    · exact absurd h hte
                    · exact ⟨by omega, h.2⟩
                   clear hte hne2
                   obtain ⟨t0, hi, hz0, hz1, hz2⟩ := info_parts Tryz.info_token
                   obtain ⟨pv, cv, rfl⟩ := own_slice HSI.out.row
                   by_cases hmm : l.length = 600
                   · have hm' : 600 ≤ (l.length : Int) := by omega
                     have HR : Hid (scanOf s = ([], 2, (k : Int))) := by rw [← HG.out]; exact scanGo_many hlt HSTEP.out hmm
                     have y0 : wi.cell? ⟨w.heap.size, 0, none⟩ = some (.int .i64 0) := (HSI.out.below.cell (p := ⟨w.heap.size, 0, none⟩) HLK.out).trans HF0.out
                     go_wp2_with (fail)
                     refine (failF_calls 2 k W1.heap.size _ HSI.out.box.cell).mono ?_
                     rintro e' wf ⟨rfl, hbf⟩
                     have HNW : Hid (W1.heap.size ≤ wi.heap.size) := HSI.out.below.size
                     have HSf : Hid (Scn W1.heap.size W1 wf W1.heap.size k (.slice pv l.length cv) l) := HSI.out.sub HNW.out hbf
                     have q0 : wf.frozen? ⟨w.heap.size, 0, none⟩ = false := (HSf.out.below.frozen (p := ⟨w.heap.size, 0, none⟩) HLK.out).trans (HFR.out 0)
                     have q1 : wf.frozen? ⟨w.heap.size, 1, none⟩ = false := (HSf.out.below.frozen (p := ⟨w.heap.size, 1, none⟩) HLK.out).trans (HFR.out 1)
                     have x0 : wf.cell? ⟨w.heap.size, 0, none⟩ = some (.int .i64 0) := (HSf.out.below.cell (p := ⟨w.heap.size, 0, none⟩) HLK.out).trans HF0.out
                     have x1 : wf.cell? ⟨w.heap.size, 1, none⟩ = some (.int .i64 0) := (HSf.out.below.cell (p := ⟨w.heap.size, 1, none⟩) HLK.out).trans HF1.out
                     clear y0 hbf
                     go_wp2
                     refine bodyPost_ret (v := .tuple #[.slice none 0 0, .agg #[.int .i64 2, .int .i64 k]]) ?_ rfl ⟨_, by rw [HR.out], ?_, ?_⟩
                     · obtain ⟨g0, g1⟩ := fault_cells x0 x1 (.int .i64 2) (.int .i64 k)
                       simp [results, Tryz.results144, go_sem, g0, g1]
                     · rw [HR.out]
                       exact nilT _
                     · exact ((HW1.out.trans (HSf.out.below.mono HW1.out.size)).setCell (Nat.le_refl _) _).setCell (Nat.le_refl _) _
                   · have hm' : ¬ 600 ≤ (l.length : Int) := by omega
                     have HSK : Hid (scanGo s f (k + t.size) (l ++ [(4, (k : Int), t)]) = scanOf s) := by rw [← HG.out]; exact (scanGo_tok hlt HSTEP.out hmm).symm
                     have HNW : Hid (W1.heap.size ≤ wi.heap.size) := HSI.out.below.size
                     have hnw := HNW.out
                     go_wp2_with (at_builtin; refine wpList_append_own_at _ rfl _ _ 79 rfl W1.heap.size 153 t0 (.agg #[.int .i64 0, .int .i64 0, .string ByteArray.empty]) 3 32 Tryz.underlying79 hi hz0 hz1 hz2 rfl (by decide) _ _ _ rfl (HSI.out.row.alloc _) ⟨wi.heap.size, 0, none⟩ 1 1 (tokCells (4, (k : Int), t)) rfl rfl ?c1 ?c2 ?c3 ?c4 ?c5 ?_)
                     case c1 =>
                      intro j u hj
                      match j, hj with
                      | 0, hj => simp [tokCells] at hj; subst hj; simp [Addr.add]
                      | 1, hj => simp [tokCells] at hj; subst hj; simp [Addr.add]
                      | 2, hj => simp [tokCells] at hj; subst hj; simp [Addr.add]
                     case c2 => intro u hu; simp [tokCells] at hu; rcases hu with rfl | rfl | rfl <;> rfl
                     case c3 => unfold maxLen; omega
                     case c4 => omega
                     case c5 => first | omega | (simp; omega)
                     · intro v' wa hown' hgrow _ hob
                       have HSa : Hid (Scn W1.heap.size W1 wa W1.heap.size k v' (l ++ [(4, (k : Int), t)])) := HSI.out.append HNW.out _ _ hown' hgrow hob
                       have HTa : Hid (TokBox wa wo.heap.size 4 k t) := HTI.out.append HNE.out.2 _ hgrow
                       clear hown' hgrow hob
                       have c0wa := HTa.out.cell0
                       have c1wa := HTa.out.cell1
                       have c2wa := HTa.out.cell2
                       have fwa := HTa.out.free
                       have bwa := HSa.out.box.cell
                       have bfwa := HSa.out.box.free
                       obtain ⟨Wb, eWb⟩ : ∃ Wb, wa.setCell ⟨W1.heap.size, 0, none⟩ (.int .i64 ((k : Int) + (t.size : Int))) = Wb := ⟨_, rfl⟩
                       have HSb : Hid (Scn W1.heap.size W1 Wb W1.heap.size ((k : Int) + (t.size : Int)) v' (l ++ [(4, (k : Int), t)])) := by rw [← eWb]; exact HSa.out.setAt _
                       have HTS : Hid (k + t.size ≤ s.size ∧ 0 < t.size) := HTZ.out
                       have hbd : (k : Int) + (t.size : Int) ≤ 4000 := by have := HTZ.out; omega
                       go_wp2
                       go_roundw
                       case rel => exact ⟨k + t.size, f, _, v', _, rfl, rfl, HTS.out.1, by have := HTS.out.2; omega, HSb.out, by rw [List.length_append]; simp; omega, HSK⟩
                       case measure =>
                        have h1 := placeAt_box (k := k + t.size) HSb.out.box
                        have h2 := HPL.out
                        have h3 := HTS.out
                        simp [h1, h2]
                        omega
    · have HR : Hid (scanOf s = (l, 0, 0)) := by rw [← HG.out]; exact scanGo_end hlt
      have q0 : wo.frozen? ⟨w.heap.size, 0, none⟩ = false := (HS.out.below.frozen (p := ⟨w.heap.size, 0, none⟩) HLK.out).trans (HFR.out 0)
      have q1 : wo.frozen? ⟨w.heap.size, 1, none⟩ = false := (HS.out.below.frozen (p := ⟨w.heap.size, 1, none⟩) HLK.out).trans (HFR.out 1)
      have f0 : wo.cell? ⟨w.heap.size, 0, none⟩ = some (.int .i64 0) := (HS.out.below.cell (p := ⟨w.heap.size, 0, none⟩) HLK.out).trans HF0.out
      have f1 : wo.cell? ⟨w.heap.size, 1, none⟩ = some (.int .i64 0) := (HS.out.below.cell (p := ⟨w.heap.size, 1, none⟩) HLK.out).trans HF1.out
      go_wp2
      refine bodyPost_ret (v := .tuple #[v, .agg #[.int .i64 0, .int .i64 0]]) ?_ rfl ⟨_, by rw [HR.out], ?_, ?_⟩
      · obtain ⟨g0, g1⟩ := fault_cells f0 f1 (.int .i64 0) (.int .i64 0)
        simp [results, Tryz.results144, go_sem, g0, g1]
      · rw [HR.out]
        exact SliceOf.of_rows (ownsRow_setCell_below (ownsRow_setCell_below HS.out.row HLK.out _) HLK.out _) (tok_rows _ _)
      · exact ((HW1.out.trans (HS.out.below.mono HW1.out.size)).setCell (Nat.le_refl _) _).setCell (Nat.le_refl _) _
 · have h0' : 4000 < (s.size : Int) := by omega
   have HE : Hid (scanOf s = ([], 2, 0)) := by unfold Hid scanOf; rw [if_pos (by omega)]
   have q0 := HFR.out 0
   have q1 := HFR.out 1
   go_enter Tryz.func144, Tryz.ntmps144
   go_wp2
   refine bodyPost_ret (v := .tuple #[.slice none 0 0, .agg #[.int .i64 2, .int .i64 0]]) ?_ rfl ⟨_, by rw [HE.out], by rw [HE.out]; exact nilT _, (HW1.out.setCell (Nat.le_refl _) _).setCell (Nat.le_refl _) _⟩
   obtain ⟨g0, g1⟩ := fault_cells hf0 hf1 (.int .i64 2) (.int .i64 0)
   simp [results, Tryz.results144, go_sem, g0, g1]
end
end Go.Proofs.YtmepcmnpmhhiiaaGreatDoor
