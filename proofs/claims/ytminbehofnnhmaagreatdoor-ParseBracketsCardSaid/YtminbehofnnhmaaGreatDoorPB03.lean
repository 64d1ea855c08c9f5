/- Texts of the proof that ParseBrackets holds, part 3; no conditions. -/
import Derived.Test.YtminbehofnnhmaaGreatDoorPB02
namespace Go.Proofs.YtminbehofnnhmaaGreatDoor
set_option linter.unusedVariables false
set_option linter.unusedSimpArgs false
set_option maxHeartbeats 8000000
set_option maxRecDepth 100000
section
open Go.RowKit
def placeAt (w : World) (p : Value) : Nat := match p with
 | .pointer (some a) => match w.cell? a with
   | some (.int _ n) => n.toNat
   | _ => 0
 | _ => 0
theorem placeAt_box {w : World} {g k : Nat} (h : AtBox w g k) : placeAt w (.pointer (some ⟨g, 0, none⟩)) = k := by
 unfold placeAt; simp only; rw [h.cell]; simp
theorem fault_cells {w : World} {fb : Nat} {x y : Value} (h0 : w.cell? ⟨fb, 0, none⟩ = some x) (h1 : w.cell? ⟨fb, 1, none⟩ = some y) (c a : Value) :
 ((w.setCell ⟨fb, 0, none⟩ c).setCell ⟨fb, 1, none⟩ a).cell? ⟨fb, 0, none⟩ = some c ∧ ((w.setCell ⟨fb, 0, none⟩ c).setCell ⟨fb, 1, none⟩ a).cell? ⟨fb, 1, none⟩ = some a :=
 ⟨(World.cell?_setCell_other _ _ _ _ (by simp)).trans (World.cell?_setCell_same _ _ _ h0), World.cell?_setCell_same _ _ _ ((World.cell?_setCell_other _ _ _ _ (by simp)).trans h1)⟩
theorem own_slice {w : World} {base : Nat} {e : TypeId} {size : Nat} {v : Value} {n : Nat} {xs : List Value} (h : w.ownsRow base e size v n xs) : ∃ p c, v = .slice p n c := by
 rcases h.2 with ⟨rfl, rfl⟩ | ⟨g, cap, cur, rfl, _⟩
 · exact ⟨none, 0, rfl⟩
 · exact ⟨_, _, rfl⟩
theorem signs_full : ∀ t ∈ signsL, 0 < t.size := by decide +kernel
theorem sign_fits {s t : Txt} {k : Nat} (hk : k ≤ s.size) (h : signAt s k t = true) (hm : t ∈ signsL) : t.size ≤ s.size - k ∧ 0 < t.size := by
 refine ⟨?_, signs_full t hm⟩
 unfold signAt Lib.hasPrefix at h
 have h1 := (List.isPrefixOf_iff_prefix.1 h).length_le
 have h2 : (restOf s k).length = s.size - k := by unfold restOf; rw [List.length_drop, bytesOf_len]
 have h3 : t.data.toList.length = t.size := by rw [Array.length_toList]; rfl
 omega
def CutAt (A : Act) (W : World) : Exit → Act → World → Prop
 | .normal, a', w' => a' = A ∧ w' = W
 | _, _, _ => False
theorem wp_cut {P : Program} {c : Code} {Q : Exit → Act → World → Prop} {a : Act} {w W : World} (A : Act) (h : c.wp P (CutAt A W) a w) (k : Q .normal A W) : c.wp P Q a w :=
 Code.wp_mono (fun e a' w' h => by
  cases e with
  | normal => obtain ⟨h2, h3⟩ := h; subst h2 h3; exact k
  | _ => exact h.elim) h
theorem nilT (w : World) : Toks w [] (.slice none 0 0) := ⟨none, 0, rfl, by simp, by unfold maxLen; omega, Or.inl rfl⟩
theorem scan_calls (s : Txt) (w : World) :
 Calls Tryz.prog 59 #[.string s] w fun e w' => ∃ y, e = .returned (.tuple #[y, .agg #[.int .i64 (scanOf s).2.1, .int .i64 (scanOf s).2.2]]) ∧ Toks w' (scanOf s).1 y ∧ Below w.heap.size w w' := by
 obtain ⟨W2, eW⟩ : ∃ W2, (w.alloc (.cells #[.string s] 9)).alloc (.cells #[.int .i64 0, .int .i64 0] 35) = W2 := ⟨_, rfl⟩
 obtain ⟨z2, hW2, m1, m2⟩ := boxes2 eW
 have hs0 := m1 0
 have hf0 := m2 0
 have hf1 := m2 1
 simp only [List.getElem?_toArray, List.getElem?_cons_zero, List.getElem?_cons_succ] at hs0 hf0 hf1
 have hff : ∀ j, W2.frozen? ⟨w.heap.size + 1, j, none⟩ = false := fun j => by rw [← eW]; exact World.frozen?_alloc_at _ _ _ _ (by simp)
 have HFR := Hd hff
 have HW2 := Hd hW2
 have HZ2 := Hd z2
 clear m1 m2 hW2 z2 hff
 by_cases h0 : s.size ≤ 4000
 · have h0' : (s.size : Int) ≤ 4000 := by omega
   have HE : Hid (scanOf s = scanGo s s.size 0 []) := by unfold Hid scanOf; rw [if_neg (by omega)]
   have hst : Scn W2.heap.size W2 (W2.alloc (.cells #[.int .i64 0] 3)) W2.heap.size 0 (.slice none 0 0) [] :=
    ⟨(Below.refl _ _).alloc (Nat.le_refl _) _, AtBox.new _ _, Nat.le_refl _, World.ownsRow_nil _ _ _ _, by simp [Value.ownBlock]⟩
   have HST := Hd hst
   have HS0 := Hd hs0
   have HF0 := Hd hf0
   have HF1 := Hd hf1
   clear hst hf0 hf1
   go_enter Tryz.func59, Tryz.ntmps59
   go_wp2
   go_loopw [4, 5, 6, 7, 8] (fun v p _ _ _ wr => ∃ (k g f : Nat) (l : List Tok) (y : Value), y = v ∧ k ≤ s.size ∧ s.size - k ≤ f ∧ p = .pointer (some ⟨g, 0, none⟩) ∧ Hid (Scn W2.heap.size W2 wr g k v l) ∧ l.length ≤ 600 ∧ Hid (scanGo s f k l = scanOf s)) (fun _ p _ _ _ wr => s.size - placeAt wr p)
   case atStart => exact ⟨0, W2.heap.size, s.size, [], _, rfl, Nat.zero_le _, by omega, rfl, HST, by simp, HE.out.symm⟩
   case round =>
    obtain ⟨k, g, f, l, v, rfl, hk, hf, rfl, HS, hl, HG⟩ := hrel
    have hbox := HS.out.box.cell
    have hfree := HS.out.box.free
    have hst0 : wr.cell? ⟨w.heap.size, 0, none⟩ = some (.string s) := (HS.out.below.cell (p := ⟨w.heap.size, 0, none⟩) (by have := HZ2.out; simp only; omega)).trans HS0.out
    have HN : Hid (W2.heap.size ≤ wr.heap.size) := HS.out.below.size
    have hpl := placeAt_box HS.out.box
    have HPL := Hd hpl
    clear hpl
    by_cases hlt : k < s.size
    · have hkk : (k : Int) < (s.size : Int) := by omega
      obtain ⟨f, rfl⟩ : ∃ f', f = f' + 1 := ⟨f - 1, by omega⟩
      obtain ⟨W5, eW5⟩ : ∃ W5, wr.alloc (.cells #[.int .i64 0, .int .i64 k, .string ⟨#[]⟩] 183) = W5 := ⟨_, rfl⟩
      have hTB5 : TokBox W5 wr.heap.size 0 k ⟨#[]⟩ := by rw [← eW5]; exact TokBox.new _ _ _ _
      have hc52 := hTB5.cell2
      have hf52 := hTB5.free 2
      obtain ⟨W6, eW6⟩ : ∃ W6, W5.setCell ⟨wr.heap.size, 2, none⟩ (.string ⟨#[]⟩) = W6 := ⟨_, rfl⟩
      have hb6 : Below wr.heap.size wr W6 := by rw [← eW6, ← eW5]; exact ((Below.refl _ _).alloc (Nat.le_refl _) _).setCell (Nat.le_refl _) _
      have HTB : Hid (TokBox W6 wr.heap.size 0 k ⟨#[]⟩) := by rw [← eW6]; exact hTB5.set2 _
      have HS6 : Hid (Scn W2.heap.size W2 W6 g k v l) := HS.out.sub HN.out hb6
      clear hTB5
      have hbox6 := HS6.out.box.cell
      have hfree6 := HS6.out.box.free
      have hst6 : W6.cell? ⟨w.heap.size, 0, none⟩ = some (.string s) := (HS6.out.below.cell (p := ⟨w.heap.size, 0, none⟩) (by have := HZ2.out; simp only; omega)).trans HS0.out
      have HNE : Hid (g ≠ wr.heap.size ∧ v.ownBlock ≠ some wr.heap.size) := ⟨by have := HS.out.box.lt; omega, fun e => by have := (HS.out.row.lt _ e).2; omega⟩
      have HB6 := Hd hb6
      clear hb6
      cases h32 : ((s[k].toNat : Int) == 32) with
      | true =>
        have HSK : Hid (scanGo s f (k + 1) l = scanOf s) := by rw [← HG.out]; exact (scanGo_skip hlt (by unfold stepOf; simp only [h32]; simp)).symm
        obtain ⟨W7, eW7⟩ : ∃ W7, W6.setCell ⟨g, 0, none⟩ (.int .i64 ((k : Int) + 1)) = W7 := ⟨_, rfl⟩
        have HS7 : Hid (Scn W2.heap.size W2 W7 g ((k : Int) + 1) v l) := by rw [← eW7]; exact HS6.out.setAt _
        have hbox7 := HS7.out.box.cell
        have HN7 : Hid (W2.heap.size ≤ W7.heap.size) := HS7.out.below.size
        go_wp2
        go_roundw
        case rel => exact ⟨k + 1, W7.heap.size, f, l, v, rfl, by omega, by omega, rfl, HS7.out.newAt HN7.out, hl, HSK⟩
        case measure =>
         have h1 := placeAt_box (k := k + 1) (HS7.out.newAt HN7.out).box
         have h2 := HPL.out
         simp [h1, h2]
         omega
      | false =>
      cases h9 : ((s[k].toNat : Int) == 9) with
      | true =>
        have HSK : Hid (scanGo s f (k + 1) l = scanOf s) := by rw [← HG.out]; exact (scanGo_skip hlt (by unfold stepOf; simp only [h32, h9]; simp)).symm
        obtain ⟨W7, eW7⟩ : ∃ W7, W6.setCell ⟨g, 0, none⟩ (.int .i64 ((k : Int) + 1)) = W7 := ⟨_, rfl⟩
        have HS7 : Hid (Scn W2.heap.size W2 W7 g ((k : Int) + 1) v l) := by rw [← eW7]; exact HS6.out.setAt _
        have hbox7 := HS7.out.box.cell
        have HN7 : Hid (W2.heap.size ≤ W7.heap.size) := HS7.out.below.size
        go_wp2
        go_roundw
        case rel => exact ⟨k + 1, W7.heap.size, f, l, v, rfl, by omega, by omega, rfl, HS7.out.newAt HN7.out, hl, HSK⟩
        case measure =>
         have h1 := placeAt_box (k := k + 1) (HS7.out.newAt HN7.out).box
         have h2 := HPL.out
         simp [h1, h2]
         omega
      | false =>
      cases h10 : ((s[k].toNat : Int) == 10) with
      | true =>
        have HSK : Hid (scanGo s f (k + 1) l = scanOf s) := by rw [← HG.out]; exact (scanGo_skip hlt (by unfold stepOf; simp only [h32, h9, h10]; simp)).symm
        obtain ⟨W7, eW7⟩ : ∃ W7, W6.setCell ⟨g, 0, none⟩ (.int .i64 ((k : Int) + 1)) = W7 := ⟨_, rfl⟩
        have HS7 : Hid (Scn W2.heap.size W2 W7 g ((k : Int) + 1) v l) := by rw [← eW7]; exact HS6.out.setAt _
        have hbox7 := HS7.out.box.cell
        have HN7 : Hid (W2.heap.size ≤ W7.heap.size) := HS7.out.below.size
        go_wp2
        go_roundw
        case rel => exact ⟨k + 1, W7.heap.size, f, l, v, rfl, by omega, by omega, rfl, HS7.out.newAt HN7.out, hl, HSK⟩
        case measure =>
         have h1 := placeAt_box (k := k + 1) (HS7.out.newAt HN7.out).box
         have h2 := HPL.out
         simp [h1, h2]
         omega
      | false =>
      cases h35 : ((s[k].toNat : Int) == 35) with
      | true =>
        obtain ⟨e, ee⟩ : ∃ e, runEnd noteB s k = e := ⟨_, rfl⟩
        have he2 : e ≤ s.size := by rw [← ee]; exact runEnd_le hk
        have he1 : k < e := by
         rw [← ee, runEnd_step hlt (by unfold noteB; have : (s[k].toNat : Int) = 35 := by simpa using h35
                                       rw [this]; rfl)]
         exact runEnd_ge _ _ _
        have HSK : Hid (scanGo s f (k + (e - k)) l = scanOf s) := by rw [← HG.out, ← ee]; exact (scanGo_skip hlt (by unfold stepOf; simp only [h32, h9, h10, h35]; simp)).symm
        obtain ⟨t, et⟩ : ∃ t, s.extract k e = t := ⟨_, rfl⟩
        have ht : t.size = e - k := by rw [← et, ByteArray.size_extract]; omega
        obtain ⟨Wd, eWd⟩ : ∃ Wd, W6.drew = Wd := ⟨_, rfl⟩
        have HSd : Hid (Scn W2.heap.size W2 Wd g k v l) := by rw [← eWd]; exact HS6.out.sub (Nat.le_trans HN.out HB6.out.size) (Below.refl _ _).drew
        have HRUN : Hid (∀ y : Unit, Calls Tryz.prog 146 #[.string s, .int .i64 k, .func (.func 147) #[] #[]] Wd fun e' w'' => e' = .returned (.string t) ∧ ∃ y : Unit, w'' = Wd) := fun _ =>
         (run_calls s k h0 hk _ _ noteF_calls (enters_at Tryz.func147 (by kernel_rfl) rfl) Wd).mono fun e' w'' ⟨h1, h2⟩ => ⟨by rw [h1, ee, et], (), h2⟩
        have hboxd := HSd.out.box.cell
        have hfreed := HSd.out.box.free
        have hstd : Wd.cell? ⟨w.heap.size, 0, none⟩ = some (.string s) := (HSd.out.below.cell (p := ⟨w.heap.size, 0, none⟩) (by have := HZ2.out; simp only; omega)).trans HS0.out
        obtain ⟨ext, hext⟩ : ∃ ext : Unit → World, ∀ y, ext y = Wd := ⟨fun _ => Wd, fun _ => rfl⟩
        have HEXT := Hd hext
        have k0 : ∀ y, (ext y).cell? ⟨g, 0, none⟩ = some (.int .i64 k) := fun y => by rw [hext]; exact hboxd
        have k1 : ∀ y, (ext y).cell? ⟨w.heap.size, 0, none⟩ = some (.string s) := fun y => by rw [hext]; exact hstd
        have HRN : Hid (∀ y : Unit, Calls Tryz.prog 146 #[.string s, .int .i64 k, .func (.func 147) #[] #[]] (ext y) fun e' w'' => e' = .returned (.string t) ∧ ∃ y : Unit, w'' = ext y) := fun y => by
         rw [hext]
         exact (HRUN.out ()).mono fun e' w'' ⟨h1, _, h2⟩ => ⟨h1, (), by rw [hext]; exact h2⟩
        have HD : Hid (W6.drew = ext ()) := by rw [hext]; exact eWd
        clear hext eWd
        obtain ⟨W7, eW7⟩ : ∃ W7, Wd.setCell ⟨g, 0, none⟩ (.int .i64 ((k : Int) + ((e - k : Nat) : Int))) = W7 := ⟨_, rfl⟩
        have HS7 : Hid (Scn W2.heap.size W2 W7 g ((k : Int) + ((e - k : Nat) : Int)) v l) := by rw [← eW7]; exact HSd.out.setAt _
        have hbox7 := HS7.out.box.cell
        have HN7 : Hid (W2.heap.size ≤ W7.heap.size) := HS7.out.below.size
        clear ee et
        go_wp2
        refine wp_region_mild_tail 6 (fun w' => ∃ y : Unit, w' = ext y) (by kernel_rfl) (by kernel_rfl) ⟨(), HD.out⟩ ?_
        simp only [List.take_succ_cons, List.take_zero, List.drop_succ_cons, List.drop_zero]
        repeat go_big_quiet_step ((go_at_call 146; exact HRN.out _))
        refine wpQuiet_nil ?_
        rintro w' ⟨y, rfl⟩
        rw [HEXT.out]
        clear k0 k1
        go_wp2
        go_roundw
        case rel => exact ⟨k + (e - k), W7.heap.size, f, l, v, rfl, by omega, by omega, rfl, HS7.out.newAt HN7.out, hl, HSK⟩
        case measure =>
         have h1 := placeAt_box (k := k + (e - k)) (HS7.out.newAt HN7.out).box
         have h2 := HPL.out
         simp [h1, h2]
         omega
      | false =>
      cases hle : letterB (s[k].toNat : Int) with
      | true =>
        obtain ⟨e, ee⟩ : ∃ e, runEnd wordB s k = e := ⟨_, rfl⟩
        have he2 : e ≤ s.size := by rw [← ee]; exact runEnd_le hk
        have he1 : k < e := by
         rw [← ee, runEnd_step hlt (by unfold wordB; rw [hle]; rfl)]
         exact runEnd_ge _ _ _
        obtain ⟨t, et⟩ : ∃ t, s.extract k e = t := ⟨_, rfl⟩
        have ht : t.size = e - k := by rw [← et, ByteArray.size_extract]; omega
        have EE := Hd ee
        have ET := Hd et
        have HRUN : Hid (∀ w', Calls Tryz.prog 146 #[.string s, .int .i64 k, .func (.func 149) #[] #[]] w' fun e' w'' => e' = .returned (.string t) ∧ w'' = w') := fun w' =>
         (run_calls s k h0 hk _ _ wordF_calls (enters_at Tryz.func149 (by kernel_rfl) rfl) w').mono fun e' w'' ⟨h1, h2⟩ => ⟨by rw [h1, ee, et], h2⟩
        clear ee et
        obtain ⟨t0, hi, hz0, hz1, hz2⟩ := info_parts Tryz.info_token
        have HWO : Hid (stepOf s k (s[k].toNat) = wordOf t) := by unfold Hid stepOf; simp only [h32, h9, h10, h35, hle]; rw [EE.out, ET.out]; simp
        have c0W6 := HTB.out.cell0
        have c1W6 := HTB.out.cell1
        have c2W6 := HTB.out.cell2
        have fW6 := HTB.out.free
        have bW6 := HS6.out.box.cell
        have bfW6 := HS6.out.box.free
        have sW6 : W6.cell? ⟨w.heap.size, 0, none⟩ = some (.string s) := (HS6.out.below.cell (p := ⟨w.heap.size, 0, none⟩) (by have := HZ2.out; simp only; omega)).trans HS0.out
        obtain ⟨W7, eW7⟩ : ∃ W7, W6.setCell ⟨wr.heap.size, 2, none⟩ (.string t) = W7 := ⟨_, rfl⟩
        have HT7 : Hid (TokBox W7 wr.heap.size 0 k t) := by rw [← eW7]; exact HTB.out.set2 _
        have HS7 : Hid (Scn W2.heap.size W2 W7 g k v l) := by rw [← eW7]; exact HS6.out.other HN.out HNE.out.1 HNE.out.2 _
        have c0W7 := HT7.out.cell0
        have c1W7 := HT7.out.cell1
        have c2W7 := HT7.out.cell2
        have fW7 := HT7.out.free
        have bW7 := HS7.out.box.cell
        have bfW7 := HS7.out.box.free
        have sW7 : W7.cell? ⟨w.heap.size, 0, none⟩ = some (.string s) := (HS7.out.below.cell (p := ⟨w.heap.size, 0, none⟩) (by have := HZ2.out; simp only; omega)).trans HS0.out
        obtain ⟨W8, eW8⟩ : ∃ W8, W7.setCell ⟨wr.heap.size, 0, none⟩ (.int .i64 1) = W8 := ⟨_, rfl⟩
        have HT8 : Hid (TokBox W8 wr.heap.size 1 k t) := by rw [← eW8]; exact HT7.out.set0 _
        have HS8 : Hid (Scn W2.heap.size W2 W8 g k v l) := by rw [← eW8]; exact HS7.out.other HN.out HNE.out.1 HNE.out.2 _
        have c0W8 := HT8.out.cell0
        have c1W8 := HT8.out.cell1
        have c2W8 := HT8.out.cell2
        have fW8 := HT8.out.free
        have bW8 := HS8.out.box.cell
        have bfW8 := HS8.out.box.free
        have sW8 : W8.cell? ⟨w.heap.size, 0, none⟩ = some (.string s) := (HS8.out.below.cell (p := ⟨w.heap.size, 0, none⟩) (by have := HZ2.out; simp only; omega)).trans HS0.out
        go_wp2_with (fail)
        refine (letter_calls _ _).mono ?_
        rintro e' w1 ⟨rfl, rfl⟩
        rw [hle]
        clear hle
        go_wp2_with (fail)
        refine (HRUN.out _).mono ?_
        rintro e' w1 ⟨rfl, rfl⟩
        go_wp2_with (fail)
        refine (word_calls t _).mono ?_
        rintro e' w9 ⟨rfl, hb9⟩
        have HN8 : Hid (W2.heap.size ≤ W8.heap.size) := HS8.out.below.size
        have HT9 : Hid (TokBox w9 wr.heap.size 1 k t) := HT8.out.below hb9
        have HS9 : Hid (Scn W2.heap.size W2 w9 g k v l) := HS8.out.sub HN8.out hb9
        clear hb9
        have c0w9 := HT9.out.cell0
        have c1w9 := HT9.out.cell1
        have c2w9 := HT9.out.cell2
        have fw9 := HT9.out.free
        have bw9 := HS9.out.box.cell
        have bfw9 := HS9.out.box.free
        have sw9 : w9.cell? ⟨w.heap.size, 0, none⟩ = some (.string s) := (HS9.out.below.cell (p := ⟨w.heap.size, 0, none⟩) (by have := HZ2.out; simp only; omega)).trans HS0.out
        cases hw : isWord t with
        | true =>
          have HSTEP : Hid (stepOf s k (s[k].toNat) = .tok 3 t) := by unfold Hid; rw [HWO.out]; unfold wordOf; rw [hw]; rfl
          clear hw
          obtain ⟨W10, eW10⟩ : ∃ W10, w9.setCell ⟨wr.heap.size, 0, none⟩ (.int .i64 3) = W10 := ⟨_, rfl⟩
          have HT10 : Hid (TokBox W10 wr.heap.size 3 k t) := by rw [← eW10]; exact HT9.out.set0 _
          have HS10 : Hid (Scn W2.heap.size W2 W10 g k v l) := by rw [← eW10]; exact HS9.out.other HN.out HNE.out.1 HNE.out.2 _
          have c0W10 := HT10.out.cell0
          have c1W10 := HT10.out.cell1
          have c2W10 := HT10.out.cell2
          have fW10 := HT10.out.free
          have bW10 := HS10.out.box.cell
          have bfW10 := HS10.out.box.free
          have sW10 : W10.cell? ⟨w.heap.size, 0, none⟩ = some (.string s) := (HS10.out.below.cell (p := ⟨w.heap.size, 0, none⟩) (by have := HZ2.out; simp only; omega)).trans HS0.out
          have HSTE := HSTEP
          obtain ⟨pv, cv, rfl⟩ := own_slice HS10.out.row
          by_cases hm : l.length = 600
          · have hm' : ((l.length : Int) == 600) = true := by simp [hm]
            have HR : Hid (scanOf s = ([], 2, (k : Int))) := by rw [← HG.out]; exact scanGo_many hlt HSTE.out hm
            have hlk : Hid (w.heap.size + 1 < W2.heap.size) := by have := HZ2.out; unfold Hid; omega
            have HNW : Hid (W2.heap.size ≤ W10.heap.size) := HS10.out.below.size
            obtain ⟨Wd, eWd⟩ : ∃ Wd, W10.drew = Wd := ⟨_, rfl⟩
            have HSd : Hid (Scn W2.heap.size W2 Wd g k (.slice pv l.length cv) l) := by rw [← eWd]; exact HS10.out.sub HNW.out (Below.refl _ _).drew
            have bd := HSd.out.box.cell
            have q0 : Wd.frozen? ⟨w.heap.size + 1, 0, none⟩ = false := (HSd.out.below.frozen (p := ⟨w.heap.size + 1, 0, none⟩) hlk.out).trans (HFR.out 0)
            have q1 : Wd.frozen? ⟨w.heap.size + 1, 1, none⟩ = false := (HSd.out.below.frozen (p := ⟨w.heap.size + 1, 1, none⟩) hlk.out).trans (HFR.out 1)
            have y0 : Wd.cell? ⟨w.heap.size + 1, 0, none⟩ = some (.int .i64 0) := (HSd.out.below.cell (p := ⟨w.heap.size + 1, 0, none⟩) hlk.out).trans HF0.out
            have y1 : Wd.cell? ⟨w.heap.size + 1, 1, none⟩ = some (.int .i64 0) := (HSd.out.below.cell (p := ⟨w.heap.size + 1, 1, none⟩) hlk.out).trans HF1.out
            have HEWD := Hd eWd
            clear eWd
            go_wp2
            refine wp_region_calm_tail 3 (by kernel_rfl) (by kernel_rfl) ?_
            rw [HEWD.out]
            simp only [List.take_succ_cons, List.take_zero, List.drop_succ_cons, List.drop_zero]
            repeat go_big_quiet_step (fail)
            refine wpQuiet_nil ?_
            go_wp2
            refine bodyPost_ret (v := .tuple #[.slice none 0 0, .agg #[.int .i64 2, .int .i64 k]]) ?_ rfl ⟨_, by rw [HR.out], ?_, ?_⟩
            · obtain ⟨g0, g1⟩ := fault_cells y0 y1 (.int .i64 2) (.int .i64 k)
              simp [results, Tryz.results59, go_sem, g0, g1]
            · rw [HR.out]
              exact nilT _
            · exact ((HW2.out.trans (HSd.out.below.mono HW2.out.size)).setCell (by simp) _).setCell (by simp) _
          · have hm' : ((l.length : Int) == 600) = false := by simp; omega
            have HSK : Hid (scanGo s f (k + t.size) (l ++ [(3, (k : Int), t)]) = scanOf s) := by rw [← HG.out]; exact (scanGo_tok hlt HSTE.out hm).symm
            have HNW : Hid (W2.heap.size ≤ W10.heap.size) := HS10.out.below.size
            have hnw := HNW.out
            go_wp2_with (at_builtin; refine wpList_append_own_at _ rfl _ _ 94 rfl W2.heap.size 183 t0 (.agg #[.int .i64 0, .int .i64 0, .string ByteArray.empty]) 3 32 Tryz.underlying94 hi hz0 hz1 hz2 rfl (by decide) _ _ _ rfl (HS10.out.row.alloc _) ⟨W10.heap.size, 0, none⟩ 1 1 (tokCells (3, (k : Int), t)) rfl rfl ?c1 ?c2 ?c3 ?c4 ?c5 ?_)
            case c1 =>
             intro j u hj
             match j, hj with
             | 0, hj => simp [tokCells] at hj; subst hj; simp [Addr.add]
             | 1, hj => simp [tokCells] at hj; subst hj; simp [Addr.add]
             | 2, hj => simp [tokCells] at hj; subst hj; simp [Addr.add]
            case c2 => intro u hu; simp [tokCells] at hu; rcases hu with rfl | rfl | rfl <;> rfl
            case c3 => unfold maxLen; omega
            case c4 => omega
            case c5 => first | omega | (simp; omega)
            · intro v' wa hown' hgrow _ hob
              have HSa : Hid (Scn W2.heap.size W2 wa g k v' (l ++ [(3, (k : Int), t)])) := HS10.out.append HNW.out _ _ hown' hgrow hob
              have HTa : Hid (TokBox wa wr.heap.size 3 k t) := HT10.out.append HNE.out.2 _ hgrow
              clear hown' hgrow hob
              have c0wa := HTa.out.cell0
              have c1wa := HTa.out.cell1
              have c2wa := HTa.out.cell2
              have fwa := HTa.out.free
              have bwa := HSa.out.box.cell
              have bfwa := HSa.out.box.free
              have swa : wa.cell? ⟨w.heap.size, 0, none⟩ = some (.string s) := (HSa.out.below.cell (p := ⟨w.heap.size, 0, none⟩) (by have := HZ2.out; simp only; omega)).trans HS0.out
              obtain ⟨Wb, eWb⟩ : ∃ Wb, wa.setCell ⟨g, 0, none⟩ (.int .i64 ((k : Int) + (t.size : Int))) = Wb := ⟨_, rfl⟩
              have HSb : Hid (Scn W2.heap.size W2 Wb g ((k : Int) + (t.size : Int)) v' (l ++ [(3, (k : Int), t)])) := by rw [← eWb]; exact HSa.out.setAt _
              have hboxb := HSb.out.box.cell
              have HNb : Hid (W2.heap.size ≤ Wb.heap.size) := HSb.out.below.size
              have HTS : Hid (k + t.size ≤ s.size ∧ 0 < t.size) := ⟨by omega, by omega⟩
              have hbd : (k : Int) + (t.size : Int) ≤ 4000 := by omega
              clear ht
              go_wp2
              go_roundw
              case rel => exact ⟨k + t.size, Wb.heap.size, f, _, v', rfl, HTS.out.1, by have := HTS.out.2; omega, rfl, HSb.out.newAt HNb.out, by rw [List.length_append]; simp; omega, HSK⟩
              case measure =>
               have h1 := placeAt_box (k := k + t.size) (HSb.out.newAt HNb.out).box
               have h2 := HPL.out
               have h3 := HTS.out
               simp [h1, h2]
               omega
        | false =>
          go_wp2_with (fail)
          refine (name_calls t _).mono ?_
          rintro e' w10 ⟨rfl, hb10⟩
          have HN9 : Hid (W2.heap.size ≤ w9.heap.size) := HS9.out.below.size
          have HT10 : Hid (TokBox w10 wr.heap.size 1 k t) := HT9.out.below hb10
          have HS10 : Hid (Scn W2.heap.size W2 w10 g k v l) := HS9.out.sub HN9.out hb10
          clear hb10
          have c0w10 := HT10.out.cell0
          have c1w10 := HT10.out.cell1
          have c2w10 := HT10.out.cell2
          have fw10 := HT10.out.free
          have bw10 := HS10.out.box.cell
          have bfw10 := HS10.out.box.free
          have sw10 : w10.cell? ⟨w.heap.size, 0, none⟩ = some (.string s) := (HS10.out.below.cell (p := ⟨w.heap.size, 0, none⟩) (by have := HZ2.out; simp only; omega)).trans HS0.out
          cases hn : isName t with
          | true =>
            have HSTEP : Hid (stepOf s k (s[k].toNat) = .tok 1 t) := by unfold Hid; rw [HWO.out]; unfold wordOf; rw [hw, hn]; rfl
            clear hw hn
            have HSTE := HSTEP
            obtain ⟨pv, cv, rfl⟩ := own_slice HS10.out.row
            by_cases hm : l.length = 600
            · have hm' : ((l.length : Int) == 600) = true := by simp [hm]
              have HR : Hid (scanOf s = ([], 2, (k : Int))) := by rw [← HG.out]; exact scanGo_many hlt HSTE.out hm
              have hlk : Hid (w.heap.size + 1 < W2.heap.size) := by have := HZ2.out; unfold Hid; omega
              have HNW : Hid (W2.heap.size ≤ w10.heap.size) := HS10.out.below.size
              obtain ⟨Wd, eWd⟩ : ∃ Wd, w10.drew = Wd := ⟨_, rfl⟩
              have HSd : Hid (Scn W2.heap.size W2 Wd g k (.slice pv l.length cv) l) := by rw [← eWd]; exact HS10.out.sub HNW.out (Below.refl _ _).drew
              have bd := HSd.out.box.cell
              have q0 : Wd.frozen? ⟨w.heap.size + 1, 0, none⟩ = false := (HSd.out.below.frozen (p := ⟨w.heap.size + 1, 0, none⟩) hlk.out).trans (HFR.out 0)
              have q1 : Wd.frozen? ⟨w.heap.size + 1, 1, none⟩ = false := (HSd.out.below.frozen (p := ⟨w.heap.size + 1, 1, none⟩) hlk.out).trans (HFR.out 1)
              have y0 : Wd.cell? ⟨w.heap.size + 1, 0, none⟩ = some (.int .i64 0) := (HSd.out.below.cell (p := ⟨w.heap.size + 1, 0, none⟩) hlk.out).trans HF0.out
              have y1 : Wd.cell? ⟨w.heap.size + 1, 1, none⟩ = some (.int .i64 0) := (HSd.out.below.cell (p := ⟨w.heap.size + 1, 1, none⟩) hlk.out).trans HF1.out
              have HEWD := Hd eWd
              clear eWd
              go_wp2
              refine wp_region_calm_tail 3 (by kernel_rfl) (by kernel_rfl) ?_
              rw [HEWD.out]
              simp only [List.take_succ_cons, List.take_zero, List.drop_succ_cons, List.drop_zero]
              repeat go_big_quiet_step (fail)
              refine wpQuiet_nil ?_
              go_wp2
              refine bodyPost_ret (v := .tuple #[.slice none 0 0, .agg #[.int .i64 2, .int .i64 k]]) ?_ rfl ⟨_, by rw [HR.out], ?_, ?_⟩
              · obtain ⟨g0, g1⟩ := fault_cells y0 y1 (.int .i64 2) (.int .i64 k)
                simp [results, Tryz.results59, go_sem, g0, g1]
              · rw [HR.out]
                exact nilT _
              · exact ((HW2.out.trans (HSd.out.below.mono HW2.out.size)).setCell (by simp) _).setCell (by simp) _
            · have hm' : ((l.length : Int) == 600) = false := by simp; omega
              have HSK : Hid (scanGo s f (k + t.size) (l ++ [(1, (k : Int), t)]) = scanOf s) := by rw [← HG.out]; exact (scanGo_tok hlt HSTE.out hm).symm
              have HNW : Hid (W2.heap.size ≤ w10.heap.size) := HS10.out.below.size
              have hnw := HNW.out
              go_wp2_with (at_builtin; refine wpList_append_own_at _ rfl _ _ 94 rfl W2.heap.size 183 t0 (.agg #[.int .i64 0, .int .i64 0, .string ByteArray.empty]) 3 32 Tryz.underlying94 hi hz0 hz1 hz2 rfl (by decide) _ _ _ rfl (HS10.out.row.alloc _) ⟨w10.heap.size, 0, none⟩ 1 1 (tokCells (1, (k : Int), t)) rfl rfl ?c1 ?c2 ?c3 ?c4 ?c5 ?_)
              case c1 =>
               intro j u hj
               match j, hj with
               | 0, hj => simp [tokCells] at hj; subst hj; simp [Addr.add]
               | 1, hj => simp [tokCells] at hj; subst hj; simp [Addr.add]
               | 2, hj => simp [tokCells] at hj; subst hj; simp [Addr.add]
              case c2 => intro u hu; simp [tokCells] at hu; rcases hu with rfl | rfl | rfl <;> rfl
              case c3 => unfold maxLen; omega
              case c4 => omega
              case c5 => first | omega | (simp; omega)
              · intro v' wa hown' hgrow _ hob
                have HSa : Hid (Scn W2.heap.size W2 wa g k v' (l ++ [(1, (k : Int), t)])) := HS10.out.append HNW.out _ _ hown' hgrow hob
                have HTa : Hid (TokBox wa wr.heap.size 1 k t) := HT10.out.append HNE.out.2 _ hgrow
                clear hown' hgrow hob
                have c0wa := HTa.out.cell0
                have c1wa := HTa.out.cell1
                have c2wa := HTa.out.cell2
                have fwa := HTa.out.free
                have bwa := HSa.out.box.cell
                have bfwa := HSa.out.box.free
                have swa : wa.cell? ⟨w.heap.size, 0, none⟩ = some (.string s) := (HSa.out.below.cell (p := ⟨w.heap.size, 0, none⟩) (by have := HZ2.out; simp only; omega)).trans HS0.out
                obtain ⟨Wb, eWb⟩ : ∃ Wb, wa.setCell ⟨g, 0, none⟩ (.int .i64 ((k : Int) + (t.size : Int))) = Wb := ⟨_, rfl⟩
                have HSb : Hid (Scn W2.heap.size W2 Wb g ((k : Int) + (t.size : Int)) v' (l ++ [(1, (k : Int), t)])) := by rw [← eWb]; exact HSa.out.setAt _
                have hboxb := HSb.out.box.cell
                have HNb : Hid (W2.heap.size ≤ Wb.heap.size) := HSb.out.below.size
                have HTS : Hid (k + t.size ≤ s.size ∧ 0 < t.size) := ⟨by omega, by omega⟩
                have hbd : (k : Int) + (t.size : Int) ≤ 4000 := by omega
                clear ht
                go_wp2
                go_roundw
                case rel => exact ⟨k + t.size, Wb.heap.size, f, _, v', rfl, HTS.out.1, by have := HTS.out.2; omega, rfl, HSb.out.newAt HNb.out, by rw [List.length_append]; simp; omega, HSK⟩
                case measure =>
                 have h1 := placeAt_box (k := k + t.size) (HSb.out.newAt HNb.out).box
                 have h2 := HPL.out
                 have h3 := HTS.out
                 simp [h1, h2]
                 omega
          | false =>
            have HBAD : Hid (stepOf s k (s[k].toNat) = .bad 2) := by unfold Hid; rw [HWO.out]; unfold wordOf; rw [hw, hn]; rfl
            have HR : Hid (scanOf s = ([], 2, (k : Int))) := by rw [← HG.out]; exact scanGo_bad hlt HBAD.out
            clear hw hn
            have hlk : Hid (w.heap.size + 1 < W2.heap.size) := by have := HZ2.out; unfold Hid; omega
            have HNW : Hid (W2.heap.size ≤ w10.heap.size) := HS10.out.below.size
            obtain ⟨Wd, eWd⟩ : ∃ Wd, w10.drew = Wd := ⟨_, rfl⟩
            have HSd : Hid (Scn W2.heap.size W2 Wd g k v l) := by rw [← eWd]; exact HS10.out.sub HNW.out (Below.refl _ _).drew
            have bd := HSd.out.box.cell
            have q0 : Wd.frozen? ⟨w.heap.size + 1, 0, none⟩ = false := (HSd.out.below.frozen (p := ⟨w.heap.size + 1, 0, none⟩) hlk.out).trans (HFR.out 0)
            have q1 : Wd.frozen? ⟨w.heap.size + 1, 1, none⟩ = false := (HSd.out.below.frozen (p := ⟨w.heap.size + 1, 1, none⟩) hlk.out).trans (HFR.out 1)
            have y0 : Wd.cell? ⟨w.heap.size + 1, 0, none⟩ = some (.int .i64 0) := (HSd.out.below.cell (p := ⟨w.heap.size + 1, 0, none⟩) hlk.out).trans HF0.out
            have y1 : Wd.cell? ⟨w.heap.size + 1, 1, none⟩ = some (.int .i64 0) := (HSd.out.below.cell (p := ⟨w.heap.size + 1, 1, none⟩) hlk.out).trans HF1.out
            have HEWD := Hd eWd
            clear eWd
            go_wp2
            refine wp_region_calm_tail 3 (by kernel_rfl) (by kernel_rfl) ?_
            rw [HEWD.out]
            simp only [List.take_succ_cons, List.take_zero, List.drop_succ_cons, List.drop_zero]
            repeat go_big_quiet_step (fail)
            refine wpQuiet_nil ?_
            go_wp2
            refine bodyPost_ret (v := .tuple #[.slice none 0 0, .agg #[.int .i64 2, .int .i64 k]]) ?_ rfl ⟨_, by rw [HR.out], ?_, ?_⟩
            · obtain ⟨g0, g1⟩ := fault_cells y0 y1 (.int .i64 2) (.int .i64 k)
              simp [results, Tryz.results59, go_sem, g0, g1]
            · rw [HR.out]
              exact nilT _
            · exact ((HW2.out.trans (HSd.out.below.mono HW2.out.size)).setCell (by simp) _).setCell (by simp) _
      | false =>
      cases hdi : digitB (s[k].toNat : Int) with
      | true =>
        obtain ⟨e, ee⟩ : ∃ e, runEnd digitB s k = e := ⟨_, rfl⟩
        have he2 : e ≤ s.size := by rw [← ee]; exact runEnd_le hk
        have he1 : k < e := by
         rw [← ee, runEnd_step hlt (by exact hdi)]
         exact runEnd_ge _ _ _
        obtain ⟨t, et⟩ : ∃ t, s.extract k e = t := ⟨_, rfl⟩
        have ht : t.size = e - k := by rw [← et, ByteArray.size_extract]; omega
        have EE := Hd ee
        have ET := Hd et
        have HRUN : Hid (∀ w', Calls Tryz.prog 146 #[.string s, .int .i64 k, .func (.func 150) #[] #[]] w' fun e' w'' => e' = .returned (.string t) ∧ w'' = w') := fun w' =>
         (run_calls s k h0 hk _ _ digitF_calls (enters_at Tryz.func150 (by kernel_rfl) rfl) w').mono fun e' w'' ⟨h1, h2⟩ => ⟨by rw [h1, ee, et], h2⟩
        clear ee et
        obtain ⟨t0, hi, hz0, hz1, hz2⟩ := info_parts Tryz.info_token
        have HWO : Hid (stepOf s k (s[k].toNat) = numOf (s[k].toNat) t) := by unfold Hid stepOf; simp only [h32, h9, h10, h35, hle, hdi]; rw [EE.out, ET.out]; simp
        have c0W6 := HTB.out.cell0
        have c1W6 := HTB.out.cell1
        have c2W6 := HTB.out.cell2
        have fW6 := HTB.out.free
        have bW6 := HS6.out.box.cell
        have bfW6 := HS6.out.box.free
        have sW6 : W6.cell? ⟨w.heap.size, 0, none⟩ = some (.string s) := (HS6.out.below.cell (p := ⟨w.heap.size, 0, none⟩) (by have := HZ2.out; simp only; omega)).trans HS0.out
        obtain ⟨W7, eW7⟩ : ∃ W7, W6.setCell ⟨wr.heap.size, 0, none⟩ (.int .i64 2) = W7 := ⟨_, rfl⟩
        have HT7 : Hid (TokBox W7 wr.heap.size 2 k ⟨#[]⟩) := by rw [← eW7]; exact HTB.out.set0 _
        have HS7 : Hid (Scn W2.heap.size W2 W7 g k v l) := by rw [← eW7]; exact HS6.out.other HN.out HNE.out.1 HNE.out.2 _
        have c0W7 := HT7.out.cell0
        have c1W7 := HT7.out.cell1
        have c2W7 := HT7.out.cell2
        have fW7 := HT7.out.free
        have bW7 := HS7.out.box.cell
        have bfW7 := HS7.out.box.free
        have sW7 : W7.cell? ⟨w.heap.size, 0, none⟩ = some (.string s) := (HS7.out.below.cell (p := ⟨w.heap.size, 0, none⟩) (by have := HZ2.out; simp only; omega)).trans HS0.out
        obtain ⟨W8, eW8⟩ : ∃ W8, W7.setCell ⟨wr.heap.size, 2, none⟩ (.string t) = W8 := ⟨_, rfl⟩
        have HT8 : Hid (TokBox W8 wr.heap.size 2 k t) := by rw [← eW8]; exact HT7.out.set2 _
        have HS8 : Hid (Scn W2.heap.size W2 W8 g k v l) := by rw [← eW8]; exact HS7.out.other HN.out HNE.out.1 HNE.out.2 _
        have c0W8 := HT8.out.cell0
        have c1W8 := HT8.out.cell1
        have c2W8 := HT8.out.cell2
        have fW8 := HT8.out.free
        have bW8 := HS8.out.box.cell
        have bfW8 := HS8.out.box.free
        have sW8 : W8.cell? ⟨w.heap.size, 0, none⟩ = some (.string s) := (HS8.out.below.cell (p := ⟨w.heap.size, 0, none⟩) (by have := HZ2.out; simp only; omega)).trans HS0.out
        go_wp2_with (fail)
        refine (letter_calls _ _).mono ?_
        rintro e' w1 ⟨rfl, rfl⟩
        rw [hle]
        clear hle
        go_wp2_with (fail)
        refine (digit_calls _ _).mono ?_
        rintro e' w1 ⟨rfl, rfl⟩
        rw [hdi]
        clear hdi
        go_wp2_with (fail)
        refine (HRUN.out _).mono ?_
        rintro e' w1 ⟨rfl, rfl⟩
        by_cases h9t : 9 < t.size
        · have h9i : 9 < (t.size : Int) := by omega
          have HBAD : Hid (stepOf s k (s[k].toNat) = .bad 3) := by unfold Hid; rw [HWO.out]; unfold numOf; rw [if_pos h9t]
          have HR : Hid (scanOf s = ([], 3, (k : Int))) := by rw [← HG.out]; exact scanGo_bad hlt HBAD.out
          have hlk : Hid (w.heap.size + 1 < W2.heap.size) := by have := HZ2.out; unfold Hid; omega
          have HNW : Hid (W2.heap.size ≤ W8.heap.size) := HS8.out.below.size
          obtain ⟨Wd, eWd⟩ : ∃ Wd, W8.drew = Wd := ⟨_, rfl⟩
          have HSd : Hid (Scn W2.heap.size W2 Wd g k v l) := by rw [← eWd]; exact HS8.out.sub HNW.out (Below.refl _ _).drew
          have bd := HSd.out.box.cell
          have q0 : Wd.frozen? ⟨w.heap.size + 1, 0, none⟩ = false := (HSd.out.below.frozen (p := ⟨w.heap.size + 1, 0, none⟩) hlk.out).trans (HFR.out 0)
          have q1 : Wd.frozen? ⟨w.heap.size + 1, 1, none⟩ = false := (HSd.out.below.frozen (p := ⟨w.heap.size + 1, 1, none⟩) hlk.out).trans (HFR.out 1)
          have y0 : Wd.cell? ⟨w.heap.size + 1, 0, none⟩ = some (.int .i64 0) := (HSd.out.below.cell (p := ⟨w.heap.size + 1, 0, none⟩) hlk.out).trans HF0.out
          have y1 : Wd.cell? ⟨w.heap.size + 1, 1, none⟩ = some (.int .i64 0) := (HSd.out.below.cell (p := ⟨w.heap.size + 1, 1, none⟩) hlk.out).trans HF1.out
          have HEWD := Hd eWd
          clear eWd
          go_wp2
          refine wp_region_calm_tail 3 (by kernel_rfl) (by kernel_rfl) ?_
          rw [HEWD.out]
          simp only [List.take_succ_cons, List.take_zero, List.drop_succ_cons, List.drop_zero]
          repeat go_big_quiet_step (fail)
          refine wpQuiet_nil ?_
          go_wp2
          refine bodyPost_ret (v := .tuple #[.slice none 0 0, .agg #[.int .i64 3, .int .i64 k]]) ?_ rfl ⟨_, by rw [HR.out], ?_, ?_⟩
          · obtain ⟨g0, g1⟩ := fault_cells y0 y1 (.int .i64 3) (.int .i64 k)
            simp [results, Tryz.results59, go_sem, g0, g1]
          · rw [HR.out]
            exact nilT _
          · exact ((HW2.out.trans (HSd.out.below.mono HW2.out.size)).setCell (by simp) _).setCell (by simp) _
        · have h9i : (t.size : Int) ≤ 9 := by omega
          by_cases h1t : 1 < t.size
          · have h1i : 1 < (t.size : Int) := by omega
            cases h48 : ((s[k].toNat : Int) == 48) with
            | true =>
              have HBAD : Hid (stepOf s k (s[k].toNat) = .bad 3) := by unfold Hid; rw [HWO.out]; unfold numOf; rw [if_neg h9t, if_pos ⟨h1t, by simpa using h48⟩]
              have HR : Hid (scanOf s = ([], 3, (k : Int))) := by rw [← HG.out]; exact scanGo_bad hlt HBAD.out
              have hlk : Hid (w.heap.size + 1 < W2.heap.size) := by have := HZ2.out; unfold Hid; omega
              have HNW : Hid (W2.heap.size ≤ W8.heap.size) := HS8.out.below.size
              obtain ⟨Wd, eWd⟩ : ∃ Wd, W8.drew = Wd := ⟨_, rfl⟩
              have HSd : Hid (Scn W2.heap.size W2 Wd g k v l) := by rw [← eWd]; exact HS8.out.sub HNW.out (Below.refl _ _).drew
              have bd := HSd.out.box.cell
              have q0 : Wd.frozen? ⟨w.heap.size + 1, 0, none⟩ = false := (HSd.out.below.frozen (p := ⟨w.heap.size + 1, 0, none⟩) hlk.out).trans (HFR.out 0)
              have q1 : Wd.frozen? ⟨w.heap.size + 1, 1, none⟩ = false := (HSd.out.below.frozen (p := ⟨w.heap.size + 1, 1, none⟩) hlk.out).trans (HFR.out 1)
              have y0 : Wd.cell? ⟨w.heap.size + 1, 0, none⟩ = some (.int .i64 0) := (HSd.out.below.cell (p := ⟨w.heap.size + 1, 0, none⟩) hlk.out).trans HF0.out
              have y1 : Wd.cell? ⟨w.heap.size + 1, 1, none⟩ = some (.int .i64 0) := (HSd.out.below.cell (p := ⟨w.heap.size + 1, 1, none⟩) hlk.out).trans HF1.out
              have HEWD := Hd eWd
              clear eWd
              go_wp2
              refine wp_region_calm_tail 3 (by kernel_rfl) (by kernel_rfl) ?_
              rw [HEWD.out]
              simp only [List.take_succ_cons, List.take_zero, List.drop_succ_cons, List.drop_zero]
              repeat go_big_quiet_step (fail)
              refine wpQuiet_nil ?_
              go_wp2
              refine bodyPost_ret (v := .tuple #[.slice none 0 0, .agg #[.int .i64 3, .int .i64 k]]) ?_ rfl ⟨_, by rw [HR.out], ?_, ?_⟩
              · obtain ⟨g0, g1⟩ := fault_cells y0 y1 (.int .i64 3) (.int .i64 k)
                simp [results, Tryz.results59, go_sem, g0, g1]
              · rw [HR.out]
                exact nilT _
              · exact ((HW2.out.trans (HSd.out.below.mono HW2.out.size)).setCell (by simp) _).setCell (by simp) _
            | false =>
              have HSTEP : Hid (stepOf s k (s[k].toNat) = .tok 2 t) := by unfold Hid; rw [HWO.out]; unfold numOf; rw [if_neg h9t, if_neg (by rintro ⟨_, h⟩; rw [h] at h48; simp at h48)]
              have HSTE := HSTEP
              obtain ⟨pv, cv, rfl⟩ := own_slice HS8.out.row
              by_cases hm : l.length = 600
              · have hm' : ((l.length : Int) == 600) = true := by simp [hm]
                have HR : Hid (scanOf s = ([], 2, (k : Int))) := by rw [← HG.out]; exact scanGo_many hlt HSTE.out hm
                have hlk : Hid (w.heap.size + 1 < W2.heap.size) := by have := HZ2.out; unfold Hid; omega
                have HNW : Hid (W2.heap.size ≤ W8.heap.size) := HS8.out.below.size
                obtain ⟨Wd, eWd⟩ : ∃ Wd, W8.drew = Wd := ⟨_, rfl⟩
                have HSd : Hid (Scn W2.heap.size W2 Wd g k (.slice pv l.length cv) l) := by rw [← eWd]; exact HS8.out.sub HNW.out (Below.refl _ _).drew
                have bd := HSd.out.box.cell
                have q0 : Wd.frozen? ⟨w.heap.size + 1, 0, none⟩ = false := (HSd.out.below.frozen (p := ⟨w.heap.size + 1, 0, none⟩) hlk.out).trans (HFR.out 0)
                have q1 : Wd.frozen? ⟨w.heap.size + 1, 1, none⟩ = false := (HSd.out.below.frozen (p := ⟨w.heap.size + 1, 1, none⟩) hlk.out).trans (HFR.out 1)
                have y0 : Wd.cell? ⟨w.heap.size + 1, 0, none⟩ = some (.int .i64 0) := (HSd.out.below.cell (p := ⟨w.heap.size + 1, 0, none⟩) hlk.out).trans HF0.out
                have y1 : Wd.cell? ⟨w.heap.size + 1, 1, none⟩ = some (.int .i64 0) := (HSd.out.below.cell (p := ⟨w.heap.size + 1, 1, none⟩) hlk.out).trans HF1.out
                have HEWD := Hd eWd
                clear eWd
                go_wp2
                refine wp_region_calm_tail 3 (by kernel_rfl) (by kernel_rfl) ?_
                rw [HEWD.out]
                simp only [List.take_succ_cons, List.take_zero, List.drop_succ_cons, List.drop_zero]
                repeat go_big_quiet_step (fail)
                refine wpQuiet_nil ?_
                go_wp2
                refine bodyPost_ret (v := .tuple #[.slice none 0 0, .agg #[.int .i64 2, .int .i64 k]]) ?_ rfl ⟨_, by rw [HR.out], ?_, ?_⟩
                · obtain ⟨g0, g1⟩ := fault_cells y0 y1 (.int .i64 2) (.int .i64 k)
                  simp [results, Tryz.results59, go_sem, g0, g1]
                · rw [HR.out]
                  exact nilT _
                · exact ((HW2.out.trans (HSd.out.below.mono HW2.out.size)).setCell (by simp) _).setCell (by simp) _
              · have hm' : ((l.length : Int) == 600) = false := by simp; omega
                have HSK : Hid (scanGo s f (k + t.size) (l ++ [(2, (k : Int), t)]) = scanOf s) := by rw [← HG.out]; exact (scanGo_tok hlt HSTE.out hm).symm
                have HNW : Hid (W2.heap.size ≤ W8.heap.size) := HS8.out.below.size
                have hnw := HNW.out
                go_wp2_with (at_builtin; refine wpList_append_own_at _ rfl _ _ 94 rfl W2.heap.size 183 t0 (.agg #[.int .i64 0, .int .i64 0, .string ByteArray.empty]) 3 32 Tryz.underlying94 hi hz0 hz1 hz2 rfl (by decide) _ _ _ rfl (HS8.out.row.alloc _) ⟨W8.heap.size, 0, none⟩ 1 1 (tokCells (2, (k : Int), t)) rfl rfl ?c1 ?c2 ?c3 ?c4 ?c5 ?_)
                case c1 =>
                 intro j u hj
                 match j, hj with
                 | 0, hj => simp [tokCells] at hj; subst hj; simp [Addr.add]
                 | 1, hj => simp [tokCells] at hj; subst hj; simp [Addr.add]
                 | 2, hj => simp [tokCells] at hj; subst hj; simp [Addr.add]
                case c2 => intro u hu; simp [tokCells] at hu; rcases hu with rfl | rfl | rfl <;> rfl
                case c3 => unfold maxLen; omega
                case c4 => omega
                case c5 => first | omega | (simp; omega)
                · intro v' wa hown' hgrow _ hob
                  have HSa : Hid (Scn W2.heap.size W2 wa g k v' (l ++ [(2, (k : Int), t)])) := HS8.out.append HNW.out _ _ hown' hgrow hob
                  have HTa : Hid (TokBox wa wr.heap.size 2 k t) := HT8.out.append HNE.out.2 _ hgrow
                  clear hown' hgrow hob
                  have c0wa := HTa.out.cell0
                  have c1wa := HTa.out.cell1
                  have c2wa := HTa.out.cell2
                  have fwa := HTa.out.free
                  have bwa := HSa.out.box.cell
                  have bfwa := HSa.out.box.free
                  have swa : wa.cell? ⟨w.heap.size, 0, none⟩ = some (.string s) := (HSa.out.below.cell (p := ⟨w.heap.size, 0, none⟩) (by have := HZ2.out; simp only; omega)).trans HS0.out
                  obtain ⟨Wb, eWb⟩ : ∃ Wb, wa.setCell ⟨g, 0, none⟩ (.int .i64 ((k : Int) + (t.size : Int))) = Wb := ⟨_, rfl⟩
                  have HSb : Hid (Scn W2.heap.size W2 Wb g ((k : Int) + (t.size : Int)) v' (l ++ [(2, (k : Int), t)])) := by rw [← eWb]; exact HSa.out.setAt _
                  have hboxb := HSb.out.box.cell
                  have HNb : Hid (W2.heap.size ≤ Wb.heap.size) := HSb.out.below.size
                  have HTS : Hid (k + t.size ≤ s.size ∧ 0 < t.size) := ⟨by omega, by omega⟩
                  have hbd : (k : Int) + (t.size : Int) ≤ 4000 := by omega
                  clear ht
                  go_wp2
                  go_roundw
                  case rel => exact ⟨k + t.size, Wb.heap.size, f, _, v', rfl, HTS.out.1, by have := HTS.out.2; omega, rfl, HSb.out.newAt HNb.out, by rw [List.length_append]; simp; omega, HSK⟩
                  case measure =>
                   have h1 := placeAt_box (k := k + t.size) (HSb.out.newAt HNb.out).box
                   have h2 := HPL.out
                   have h3 := HTS.out
                   simp [h1, h2]
                   omega
          · have h1i : (t.size : Int) ≤ 1 := by omega
            have HSTEP : Hid (stepOf s k (s[k].toNat) = .tok 2 t) := by unfold Hid; rw [HWO.out]; unfold numOf; rw [if_neg h9t, if_neg (by rintro ⟨h, _⟩; omega)]
            have HSTE := HSTEP
            obtain ⟨pv, cv, rfl⟩ := own_slice HS8.out.row
            by_cases hm : l.length = 600
            · have hm' : ((l.length : Int) == 600) = true := by simp [hm]
              have HR : Hid (scanOf s = ([], 2, (k : Int))) := by rw [← HG.out]; exact scanGo_many hlt HSTE.out hm
              have hlk : Hid (w.heap.size + 1 < W2.heap.size) := by have := HZ2.out; unfold Hid; omega
              have HNW : Hid (W2.heap.size ≤ W8.heap.size) := HS8.out.below.size
              obtain ⟨Wd, eWd⟩ : ∃ Wd, W8.drew = Wd := ⟨_, rfl⟩
              have HSd : Hid (Scn W2.heap.size W2 Wd g k (.slice pv l.length cv) l) := by rw [← eWd]; exact HS8.out.sub HNW.out (Below.refl _ _).drew
              have bd := HSd.out.box.cell
              have q0 : Wd.frozen? ⟨w.heap.size + 1, 0, none⟩ = false := (HSd.out.below.frozen (p := ⟨w.heap.size + 1, 0, none⟩) hlk.out).trans (HFR.out 0)
              have q1 : Wd.frozen? ⟨w.heap.size + 1, 1, none⟩ = false := (HSd.out.below.frozen (p := ⟨w.heap.size + 1, 1, none⟩) hlk.out).trans (HFR.out 1)
              have y0 : Wd.cell? ⟨w.heap.size + 1, 0, none⟩ = some (.int .i64 0) := (HSd.out.below.cell (p := ⟨w.heap.size + 1, 0, none⟩) hlk.out).trans HF0.out
              have y1 : Wd.cell? ⟨w.heap.size + 1, 1, none⟩ = some (.int .i64 0) := (HSd.out.below.cell (p := ⟨w.heap.size + 1, 1, none⟩) hlk.out).trans HF1.out
              have HEWD := Hd eWd
              clear eWd
              go_wp2
              refine wp_region_calm_tail 3 (by kernel_rfl) (by kernel_rfl) ?_
              rw [HEWD.out]
              simp only [List.take_succ_cons, List.take_zero, List.drop_succ_cons, List.drop_zero]
              repeat go_big_quiet_step (fail)
              refine wpQuiet_nil ?_
              go_wp2
              refine bodyPost_ret (v := .tuple #[.slice none 0 0, .agg #[.int .i64 2, .int .i64 k]]) ?_ rfl ⟨_, by rw [HR.out], ?_, ?_⟩
              · obtain ⟨g0, g1⟩ := fault_cells y0 y1 (.int .i64 2) (.int .i64 k)
                simp [results, Tryz.results59, go_sem, g0, g1]
              · rw [HR.out]
                exact nilT _
              · exact ((HW2.out.trans (HSd.out.below.mono HW2.out.size)).setCell (by simp) _).setCell (by simp) _
            · have hm' : ((l.length : Int) == 600) = false := by simp; omega
              have HSK : Hid (scanGo s f (k + t.size) (l ++ [(2, (k : Int), t)]) = scanOf s) := by rw [← HG.out]; exact (scanGo_tok hlt HSTE.out hm).symm
              have HNW : Hid (W2.heap.size ≤ W8.heap.size) := HS8.out.below.size
              have hnw := HNW.out
              go_wp2_with (at_builtin; refine wpList_append_own_at _ rfl _ _ 94 rfl W2.heap.size 183 t0 (.agg #[.int .i64 0, .int .i64 0, .string ByteArray.empty]) 3 32 Tryz.underlying94 hi hz0 hz1 hz2 rfl (by decide) _ _ _ rfl (HS8.out.row.alloc _) ⟨W8.heap.size, 0, none⟩ 1 1 (tokCells (2, (k : Int), t)) rfl rfl ?c1 ?c2 ?c3 ?c4 ?c5 ?_)
              case c1 =>
               intro j u hj
               match j, hj with
               | 0, hj => simp [tokCells] at hj; subst hj; simp [Addr.add]
               | 1, hj => simp [tokCells] at hj; subst hj; simp [Addr.add]
               | 2, hj => simp [tokCells] at hj; subst hj; simp [Addr.add]
              case c2 => intro u hu; simp [tokCells] at hu; rcases hu with rfl | rfl | rfl <;> rfl
              case c3 => unfold maxLen; omega
              case c4 => omega
              case c5 => first | omega | (simp; omega)
              · intro v' wa hown' hgrow _ hob
                have HSa : Hid (Scn W2.heap.size W2 wa g k v' (l ++ [(2, (k : Int), t)])) := HS8.out.append HNW.out _ _ hown' hgrow hob
                have HTa : Hid (TokBox wa wr.heap.size 2 k t) := HT8.out.append HNE.out.2 _ hgrow
                clear hown' hgrow hob
                have c0wa := HTa.out.cell0
                have c1wa := HTa.out.cell1
                have c2wa := HTa.out.cell2
                have fwa := HTa.out.free
                have bwa := HSa.out.box.cell
                have bfwa := HSa.out.box.free
                have swa : wa.cell? ⟨w.heap.size, 0, none⟩ = some (.string s) := (HSa.out.below.cell (p := ⟨w.heap.size, 0, none⟩) (by have := HZ2.out; simp only; omega)).trans HS0.out
                obtain ⟨Wb, eWb⟩ : ∃ Wb, wa.setCell ⟨g, 0, none⟩ (.int .i64 ((k : Int) + (t.size : Int))) = Wb := ⟨_, rfl⟩
                have HSb : Hid (Scn W2.heap.size W2 Wb g ((k : Int) + (t.size : Int)) v' (l ++ [(2, (k : Int), t)])) := by rw [← eWb]; exact HSa.out.setAt _
                have hboxb := HSb.out.box.cell
                have HNb : Hid (W2.heap.size ≤ Wb.heap.size) := HSb.out.below.size
                have HTS : Hid (k + t.size ≤ s.size ∧ 0 < t.size) := ⟨by omega, by omega⟩
                have hbd : (k : Int) + (t.size : Int) ≤ 4000 := by omega
                clear ht
                go_wp2
                go_roundw
                case rel => exact ⟨k + t.size, Wb.heap.size, f, _, v', rfl, HTS.out.1, by have := HTS.out.2; omega, rfl, HSb.out.newAt HNb.out, by rw [List.length_append]; simp; omega, HSK⟩
                case measure =>
                 have h1 := placeAt_box (k := k + t.size) (HSb.out.newAt HNb.out).box
                 have h2 := HPL.out
                 have h3 := HTS.out
                 simp [h1, h2]
                 omega
      | false =>
        have c0W6 := HTB.out.cell0
        have c1W6 := HTB.out.cell1
        have c2W6 := HTB.out.cell2
        have fW6 := HTB.out.free
        have bW6 := HS6.out.box.cell
        have bfW6 := HS6.out.box.free
        have sW6 : W6.cell? ⟨w.heap.size, 0, none⟩ = some (.string s) := (HS6.out.below.cell (p := ⟨w.heap.size, 0, none⟩) (by have := HZ2.out; simp only; omega)).trans HS0.out
        obtain ⟨t0, hi, hz0, hz1, hz2⟩ := info_parts Tryz.info_token
        have HWO : Hid (stepOf s k (s[k].toNat) = signOf s k) := by unfold Hid stepOf; simp only [h32, h9, h10, h35, hle, hdi]; simp
        have HEG : Hid (∀ args w, (callFunc 154 args).run Tryz.prog w = .ok (.enter 154 args) w) := enters_at Tryz.func154 (by kernel_rfl) rfl
        go_wp2_with (fail)
        refine (letter_calls _ _).mono ?_
        rintro e' w1 ⟨rfl, rfl⟩
        rw [hle]
        clear hle
        go_wp2_with (fail)
        refine (digit_calls _ _).mono ?_
        rintro e' w1 ⟨rfl, rfl⟩
        rw [hdi]
        clear hdi
        go_wp2_with (fail)
        refine (signs_calls _).mono ?_
        rintro e' w7 ⟨rfl, rfl⟩
        have hb67 : Below W6.heap.size W6 (W6.alloc (.cells signCells 9)) := (Below.refl _ _).alloc (Nat.le_refl _) _
        have HB67 := Hd hb67
        clear hb67
        go_wp2_with (fail)
        refine (indexFunc_calls signsL _ 154 #[.pointer (some ⟨w.heap.size, 0, none⟩), .pointer (some ⟨g, 0, none⟩)] (signAt s k) _ (signs_strs W6) HEG.out ?_).mono ?_
        · intro x _ wx hbx
          have hb : Below W6.heap.size W6 wx := HB67.out.trans (hbx.mono HB67.out.size)
          refine (signF_calls s x k hk w.heap.size g wx ((hb.cell (cell_lt sW6)).trans sW6) ((hb.cell (cell_lt bW6)).trans bW6)).mono ?_
          rintro e' wy ⟨rfl, rfl⟩
          exact ⟨rfl, Below.refl _ _⟩
        · rintro e' w9 ⟨rfl, hb79⟩
          have hb69 : Below W6.heap.size W6 w9 := HB67.out.trans (hb79.mono HB67.out.size)
          have HN6 : Hid (W2.heap.size ≤ W6.heap.size) := HS6.out.below.size
          have HT9 : Hid (TokBox w9 wr.heap.size 0 k ⟨#[]⟩) := HTB.out.below hb69
          have HS9 : Hid (Scn W2.heap.size W2 w9 g k v l) := HS6.out.sub HN6.out hb69
          clear hb69 hb79
          have c0w9 := HT9.out.cell0
          have c1w9 := HT9.out.cell1
          have c2w9 := HT9.out.cell2
          have fw9 := HT9.out.free
          have bw9 := HS9.out.box.cell
          have bfw9 := HS9.out.box.free
          have sw9 : w9.cell? ⟨w.heap.size, 0, none⟩ = some (.string s) := (HS9.out.below.cell (p := ⟨w.heap.size, 0, none⟩) (by have := HZ2.out; simp only; omega)).trans HS0.out
          cases hx : signsL.findIdx? (signAt s k) with
          | none =>
            have e1 : idxBy signsL (signAt s k) = -1 := by unfold idxBy; rw [hx]
            have HBAD : Hid (stepOf s k (s[k].toNat) = .bad 1) := by
             unfold Hid; rw [HWO.out]; unfold signOf
             have : signsL.find? (signAt s k) = none := by
              rw [List.findIdx?_eq_none_iff] at hx
              rw [List.find?_eq_none]
              intro y hy; rw [hx y hy]; simp
             rw [this]
            have HR : Hid (scanOf s = ([], 1, (k : Int))) := by rw [← HG.out]; exact scanGo_bad hlt HBAD.out
            rw [e1]
            clear hx e1
            have hlk : Hid (w.heap.size + 1 < W2.heap.size) := by have := HZ2.out; unfold Hid; omega
            have HNW : Hid (W2.heap.size ≤ w9.heap.size) := HS9.out.below.size
            obtain ⟨Wd, eWd⟩ : ∃ Wd, w9.drew = Wd := ⟨_, rfl⟩
            have HSd : Hid (Scn W2.heap.size W2 Wd g k v l) := by rw [← eWd]; exact HS9.out.sub HNW.out (Below.refl _ _).drew
            have bd := HSd.out.box.cell
            have q0 : Wd.frozen? ⟨w.heap.size + 1, 0, none⟩ = false := (HSd.out.below.frozen (p := ⟨w.heap.size + 1, 0, none⟩) hlk.out).trans (HFR.out 0)
            have q1 : Wd.frozen? ⟨w.heap.size + 1, 1, none⟩ = false := (HSd.out.below.frozen (p := ⟨w.heap.size + 1, 1, none⟩) hlk.out).trans (HFR.out 1)
            have y0 : Wd.cell? ⟨w.heap.size + 1, 0, none⟩ = some (.int .i64 0) := (HSd.out.below.cell (p := ⟨w.heap.size + 1, 0, none⟩) hlk.out).trans HF0.out
            have y1 : Wd.cell? ⟨w.heap.size + 1, 1, none⟩ = some (.int .i64 0) := (HSd.out.below.cell (p := ⟨w.heap.size + 1, 1, none⟩) hlk.out).trans HF1.out
            have HEWD := Hd eWd
            clear eWd
            go_wp2
            refine wp_region_calm_tail 3 (by kernel_rfl) (by kernel_rfl) ?_
            rw [HEWD.out]
            simp only [List.take_succ_cons, List.take_zero, List.drop_succ_cons, List.drop_zero]
            repeat go_big_quiet_step (fail)
            refine wpQuiet_nil ?_
            go_wp2
            refine bodyPost_ret (v := .tuple #[.slice none 0 0, .agg #[.int .i64 1, .int .i64 k]]) ?_ rfl ⟨_, by rw [HR.out], ?_, ?_⟩
            · obtain ⟨g0, g1⟩ := fault_cells y0 y1 (.int .i64 1) (.int .i64 k)
              simp [results, Tryz.results59, go_sem, g0, g1]
            · rw [HR.out]
              exact nilT _
            · exact ((HW2.out.trans (HSd.out.below.mono HW2.out.size)).setCell (by simp) _).setCell (by simp) _
          | some i =>
            have e1 : idxBy signsL (signAt s k) = i := by unfold idxBy; rw [hx]
            obtain ⟨hil, hsa, hfirst⟩ := List.findIdx?_eq_some_iff_getElem.1 hx
            obtain ⟨t, et⟩ : ∃ t, signsL[i] = t := ⟨_, rfl⟩
            have HSTEP : Hid (stepOf s k (s[k].toNat) = .tok 4 t) := by
             unfold Hid; rw [HWO.out]; unfold signOf
             have : signsL.find? (signAt s k) = some t := by
              rw [List.find?_eq_some_iff_getElem]
              exact ⟨by rw [← et]; exact hsa, i, hil, et, fun j hj => by simpa using hfirst j hj⟩
             rw [this]
            have hi22 : i < 22 := hil
            have ht : t.size ≤ s.size - k ∧ 0 < t.size := by
             rw [et] at hsa
             exact sign_fits hk hsa (et ▸ List.getElem_mem hil)
            rw [e1]
            clear e1 hx hsa hfirst
            have HN9 : Hid (W2.heap.size ≤ w9.heap.size) := HS9.out.below.size
            have htb9 : wr.heap.size ≠ w9.heap.size := by have := HT9.out.lt; omega
            obtain ⟨WA, eWA⟩ : ∃ WA, w9.drew.alloc (.cells signCells 9) = WA := ⟨_, rfl⟩
            have hbA : Below w9.heap.size w9 WA := by rw [← eWA]; exact (Below.refl _ _).drew.alloc (Nat.le_refl _) _
            have HTA : Hid (TokBox WA wr.heap.size 0 k ⟨#[]⟩) := HT9.out.below hbA
            have HSA : Hid (Scn W2.heap.size W2 WA g k v l) := HS9.out.sub HN9.out hbA
            have xA : WA.cell? ⟨w9.heap.size, i, none⟩ = some (.string t) := by
             rw [← eWA]
             refine (alloc_cell_new _ _ _ _ _ rfl).trans ?_
             unfold signCells
             rw [List.getElem?_toArray, List.getElem?_map, List.getElem?_eq_getElem hil, et]
             rfl
            obtain ⟨WB, eWB⟩ : ∃ WB, WA.setCell ⟨wr.heap.size, 0, none⟩ (.int .i64 4) = WB := ⟨_, rfl⟩
            have HTB2 : Hid (TokBox WB wr.heap.size 4 k ⟨#[]⟩) := by rw [← eWB]; exact HTA.out.set0 _
            have HSB : Hid (Scn W2.heap.size W2 WB g k v l) := by rw [← eWB]; exact HSA.out.other HN.out HNE.out.1 HNE.out.2 _
            have xB : WB.cell? ⟨w9.heap.size, i, none⟩ = some (.string t) := by rw [← eWB]; exact (World.cell?_setCell_other _ _ _ _ (by simp <;> omega)).trans xA
            obtain ⟨WC, eWC⟩ : ∃ WC, WB.setCell ⟨wr.heap.size, 2, none⟩ (.string t) = WC := ⟨_, rfl⟩
            have HTC : Hid (TokBox WC wr.heap.size 4 k t) := by rw [← eWC]; exact HTB2.out.set2 _
            have HSC : Hid (Scn W2.heap.size W2 WC g k v l) := by rw [← eWC]; exact HSB.out.other HN.out HNE.out.1 HNE.out.2 _
            clear hbA et
            have c0WA := HTA.out.cell0
            have c1WA := HTA.out.cell1
            have c2WA := HTA.out.cell2
            have fWA := HTA.out.free
            have bWA := HSA.out.box.cell
            have bfWA := HSA.out.box.free
            have sWA : WA.cell? ⟨w.heap.size, 0, none⟩ = some (.string s) := (HSA.out.below.cell (p := ⟨w.heap.size, 0, none⟩) (by have := HZ2.out; simp only; omega)).trans HS0.out
            have c0WB := HTB2.out.cell0
            have c1WB := HTB2.out.cell1
            have c2WB := HTB2.out.cell2
            have fWB := HTB2.out.free
            have bWB := HSB.out.box.cell
            have bfWB := HSB.out.box.free
            have sWB : WB.cell? ⟨w.heap.size, 0, none⟩ = some (.string s) := (HSB.out.below.cell (p := ⟨w.heap.size, 0, none⟩) (by have := HZ2.out; simp only; omega)).trans HS0.out
            have c0WC := HTC.out.cell0
            have c1WC := HTC.out.cell1
            have c2WC := HTC.out.cell2
            have fWC := HTC.out.free
            have bWC := HSC.out.box.cell
            have bfWC := HSC.out.box.free
            have sWC : WC.cell? ⟨w.heap.size, 0, none⟩ = some (.string s) := (HSC.out.below.cell (p := ⟨w.heap.size, 0, none⟩) (by have := HZ2.out; simp only; omega)).trans HS0.out
            go_wp2
            apply wp_cut (W := WC)
            · go_region_with (go_at_call 153; refine (signs_calls _).mono ?_; rintro e' w1 ⟨rfl, rfl⟩)
              all_goals exact ⟨rfl, rfl⟩
            · clear xA xB
              have HSTE := HSTEP
              obtain ⟨pv, cv, rfl⟩ := own_slice HSC.out.row
              by_cases hm : l.length = 600
              · have hm' : ((l.length : Int) == 600) = true := by simp [hm]
                have HR : Hid (scanOf s = ([], 2, (k : Int))) := by rw [← HG.out]; exact scanGo_many hlt HSTE.out hm
                have hlk : Hid (w.heap.size + 1 < W2.heap.size) := by have := HZ2.out; unfold Hid; omega
                have HNW : Hid (W2.heap.size ≤ WC.heap.size) := HSC.out.below.size
                obtain ⟨Wd, eWd⟩ : ∃ Wd, WC.drew = Wd := ⟨_, rfl⟩
                have HSd : Hid (Scn W2.heap.size W2 Wd g k (.slice pv l.length cv) l) := by rw [← eWd]; exact HSC.out.sub HNW.out (Below.refl _ _).drew
                have bd := HSd.out.box.cell
                have q0 : Wd.frozen? ⟨w.heap.size + 1, 0, none⟩ = false := (HSd.out.below.frozen (p := ⟨w.heap.size + 1, 0, none⟩) hlk.out).trans (HFR.out 0)
                have q1 : Wd.frozen? ⟨w.heap.size + 1, 1, none⟩ = false := (HSd.out.below.frozen (p := ⟨w.heap.size + 1, 1, none⟩) hlk.out).trans (HFR.out 1)
                have y0 : Wd.cell? ⟨w.heap.size + 1, 0, none⟩ = some (.int .i64 0) := (HSd.out.below.cell (p := ⟨w.heap.size + 1, 0, none⟩) hlk.out).trans HF0.out
                have y1 : Wd.cell? ⟨w.heap.size + 1, 1, none⟩ = some (.int .i64 0) := (HSd.out.below.cell (p := ⟨w.heap.size + 1, 1, none⟩) hlk.out).trans HF1.out
                have HEWD := Hd eWd
                clear eWd
                go_wp2
                refine wp_region_calm_tail 3 (by kernel_rfl) (by kernel_rfl) ?_
                rw [HEWD.out]
                simp only [List.take_succ_cons, List.take_zero, List.drop_succ_cons, List.drop_zero]
                repeat go_big_quiet_step (fail)
                refine wpQuiet_nil ?_
                go_wp2
                refine bodyPost_ret (v := .tuple #[.slice none 0 0, .agg #[.int .i64 2, .int .i64 k]]) ?_ rfl ⟨_, by rw [HR.out], ?_, ?_⟩
                · obtain ⟨g0, g1⟩ := fault_cells y0 y1 (.int .i64 2) (.int .i64 k)
                  simp [results, Tryz.results59, go_sem, g0, g1]
                · rw [HR.out]
                  exact nilT _
                · exact ((HW2.out.trans (HSd.out.below.mono HW2.out.size)).setCell (by simp) _).setCell (by simp) _
              · have hm' : ((l.length : Int) == 600) = false := by simp; omega
                have HSK : Hid (scanGo s f (k + t.size) (l ++ [(4, (k : Int), t)]) = scanOf s) := by rw [← HG.out]; exact (scanGo_tok hlt HSTE.out hm).symm
                have HNW : Hid (W2.heap.size ≤ WC.heap.size) := HSC.out.below.size
                have hnw := HNW.out
                go_wp2_with (at_builtin; refine wpList_append_own_at _ rfl _ _ 94 rfl W2.heap.size 183 t0 (.agg #[.int .i64 0, .int .i64 0, .string ByteArray.empty]) 3 32 Tryz.underlying94 hi hz0 hz1 hz2 rfl (by decide) _ _ _ rfl (HSC.out.row.alloc _) ⟨WC.heap.size, 0, none⟩ 1 1 (tokCells (4, (k : Int), t)) rfl rfl ?c1 ?c2 ?c3 ?c4 ?c5 ?_)
                case c1 =>
                 intro j u hj
                 match j, hj with
                 | 0, hj => simp [tokCells] at hj; subst hj; simp [Addr.add]
                 | 1, hj => simp [tokCells] at hj; subst hj; simp [Addr.add]
                 | 2, hj => simp [tokCells] at hj; subst hj; simp [Addr.add]
                case c2 => intro u hu; simp [tokCells] at hu; rcases hu with rfl | rfl | rfl <;> rfl
                case c3 => unfold maxLen; omega
                case c4 => omega
                case c5 => first | omega | (simp; omega)
                · intro v' wa hown' hgrow _ hob
                  have HSa : Hid (Scn W2.heap.size W2 wa g k v' (l ++ [(4, (k : Int), t)])) := HSC.out.append HNW.out _ _ hown' hgrow hob
                  have HTa : Hid (TokBox wa wr.heap.size 4 k t) := HTC.out.append HNE.out.2 _ hgrow
                  clear hown' hgrow hob
                  have c0wa := HTa.out.cell0
                  have c1wa := HTa.out.cell1
                  have c2wa := HTa.out.cell2
                  have fwa := HTa.out.free
                  have bwa := HSa.out.box.cell
                  have bfwa := HSa.out.box.free
                  have swa : wa.cell? ⟨w.heap.size, 0, none⟩ = some (.string s) := (HSa.out.below.cell (p := ⟨w.heap.size, 0, none⟩) (by have := HZ2.out; simp only; omega)).trans HS0.out
                  obtain ⟨Wb, eWb⟩ : ∃ Wb, wa.setCell ⟨g, 0, none⟩ (.int .i64 ((k : Int) + (t.size : Int))) = Wb := ⟨_, rfl⟩
                  have HSb : Hid (Scn W2.heap.size W2 Wb g ((k : Int) + (t.size : Int)) v' (l ++ [(4, (k : Int), t)])) := by rw [← eWb]; exact HSa.out.setAt _
                  have hboxb := HSb.out.box.cell
                  have HNb : Hid (W2.heap.size ≤ Wb.heap.size) := HSb.out.below.size
                  have HTS : Hid (k + t.size ≤ s.size ∧ 0 < t.size) := ⟨by omega, by omega⟩
                  have hbd : (k : Int) + (t.size : Int) ≤ 4000 := by omega
                  clear ht
                  go_wp2
                  go_roundw
                  case rel => exact ⟨k + t.size, Wb.heap.size, f, _, v', rfl, HTS.out.1, by have := HTS.out.2; omega, rfl, HSb.out.newAt HNb.out, by rw [List.length_append]; simp; omega, HSK⟩
                  case measure =>
                   have h1 := placeAt_box (k := k + t.size) (HSb.out.newAt HNb.out).box
                   have h2 := HPL.out
                   have h3 := HTS.out
                   simp [h1, h2]
                   omega
    · have HR : Hid (scanOf s = (l, 0, 0)) := by rw [← HG.out]; exact scanGo_end hlt
      have hlk : Hid (w.heap.size + 1 < W2.heap.size) := by have := HZ2.out; unfold Hid; omega
      have q0 : wr.frozen? ⟨w.heap.size + 1, 0, none⟩ = false := (HS.out.below.frozen (p := ⟨w.heap.size + 1, 0, none⟩) hlk.out).trans (HFR.out 0)
      have q1 : wr.frozen? ⟨w.heap.size + 1, 1, none⟩ = false := (HS.out.below.frozen (p := ⟨w.heap.size + 1, 1, none⟩) hlk.out).trans (HFR.out 1)
      have f0 : wr.cell? ⟨w.heap.size + 1, 0, none⟩ = some (.int .i64 0) := (HS.out.below.cell (p := ⟨w.heap.size + 1, 0, none⟩) hlk.out).trans HF0.out
      have f1 : wr.cell? ⟨w.heap.size + 1, 1, none⟩ = some (.int .i64 0) := (HS.out.below.cell (p := ⟨w.heap.size + 1, 1, none⟩) hlk.out).trans HF1.out
      go_wp2
      refine bodyPost_ret (v := .tuple #[v, .agg #[.int .i64 0, .int .i64 0]]) ?_ rfl ⟨_, by rw [HR.out], ?_, ?_⟩
      · obtain ⟨g0, g1⟩ := fault_cells f0 f1 (.int .i64 0) (.int .i64 0)
        simp [results, Tryz.results59, go_sem, g0, g1]
      · rw [HR.out]
        exact SliceOf.of_rows (ownsRow_setCell_below (ownsRow_setCell_below HS.out.row hlk.out _) hlk.out _) (tok_rows _ _)
      · exact ((HW2.out.trans (HS.out.below.mono HW2.out.size)).setCell (by simp) _).setCell (by simp) _
 · have h0' : 4000 < (s.size : Int) := by omega
   have HE : Hid (scanOf s = ([], 2, 0)) := by unfold Hid scanOf; rw [if_pos (by omega)]
   have q0 := HFR.out 0
   have q1 := HFR.out 1
   go_enter Tryz.func59, Tryz.ntmps59
   go_wp2
   refine bodyPost_ret (v := .tuple #[.slice none 0 0, .agg #[.int .i64 2, .int .i64 0]]) ?_ rfl ⟨_, by rw [HE.out], by rw [HE.out]; exact nilT _, (HW2.out.setCell (by simp) _).setCell (by simp) _⟩
   obtain ⟨g0, g1⟩ := fault_cells hf0 hf1 (.int .i64 2) (.int .i64 0)
   simp [results, Tryz.results59, go_sem, g0, g1]
end
end Go.Proofs.YtminbehofnnhmaaGreatDoor
