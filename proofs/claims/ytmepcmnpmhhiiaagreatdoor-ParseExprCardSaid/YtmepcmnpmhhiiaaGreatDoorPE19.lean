/- Texts of the proof that ParseExpr holds, part 19; no conditions. -/
import Derived.Test.YtmepcmnpmhhiiaaGreatDoorPE18
import Derived.Test.YtmepcmnpmhhiiaaGreatDoorPE04
import Derived.Test.YtmepcmnpmhhiiaaGreatDoorPE16
import Derived.Test.YtmepcmnpmhhiiaaGreatDoorPE03
import Derived.RegionTactic
import Derived.ChangeAlike
namespace Go.Proofs.YtmepcmnpmhhiiaaGreatDoor
set_option linter.unusedVariables false
set_option linter.unusedSimpArgs false
set_option maxHeartbeats 8000000
set_option maxRecDepth 100000
section
open Go.RowKit Go.Maps
theorem samePol_refl (p : Pol) : samePol p p = true := by unfold samePol; simp
theorem sameLab_refl (l : Lab) : sameLab l l = true := eqF_all rfl fun k h1 h2 => samePol_refl _
theorem sameE_refl : ∀ (n : Nat) (x : Ex), deepE x ≤ n → sameE x x = true := by
 intro n
 induction n with
 | zero => intro x h; rw [deepE_eq] at h; omega
 | succ n ih =>
   intro x h
   rw [sameE_eq, sameL_eqF, sameLab_refl, eqF_all rfl fun k h1 h2 => ih _ (by rw [deepE_eq] at h; have := deepL_at h1; omega)]
   simp
theorem atE_step (x : Ex) (va vb : Value) (w : World) (hx : ExIs w x va) (hy : ExIs w x vb)
 (hk : ∀ (W : World) (v u : Value), Exs W x.kids v → Exs W x.kids u → Calls Tryz.prog 57 #[v, u, .func (.func 74) #[] #[]] W fun e w' => e = .returned (.bool true) ∧ Below W.heap.size W w') :
 Calls Tryz.prog 74 #[va, vb] w fun e w' => e = .returned (.bool true) ∧ Below w.heap.size w w' := by
 obtain ⟨vl, wa, rfl, hl, ha⟩ := hx
 obtain ⟨pl, cl, rfl, h1⟩ := hl
 have ha0 := ha
 obtain ⟨pa, ca, rfl, h2⟩ := ha
 obtain ⟨vl, wa, rfl, hl', ha'⟩ := hy
 obtain ⟨pl', cl', rfl, h1'⟩ := hl'
 have ha0' := ha'
 obtain ⟨pa', ca', rfl, h2'⟩ := ha'
 obtain ⟨W2, eW⟩ : ∃ W2, (w.alloc (.cells #[.int .i64 x.kind, .int .i64 x.at_, .int .i64 x.num, .int .i64 x.ty, .string x.name, .slice pl x.lab.length cl, .slice pa x.kids.length ca] 26)).alloc (.cells #[.int .i64 x.kind, .int .i64 x.at_, .int .i64 x.num, .int .i64 x.ty, .string x.name, .slice pl' x.lab.length cl', .slice pa' x.kids.length ca'] 26) = W2 := ⟨_, rfl⟩
 obtain ⟨z2, hb2, m0, m1⟩ := boxes2 eW
 have hB : Blk W2 w.heap.size (exC x (.slice pl x.lab.length cl) (.slice pa x.kids.length ca)) 26 := by rw [← eW]; exact (Blk.new _ _ _).below ((Below.refl _ _).alloc (Nat.le_refl _) _)
 have hC : Blk W2 (w.heap.size + 1) (exC x (.slice pl' x.lab.length cl') (.slice pa' x.kids.length ca')) 26 := by rw [← eW]; exact Blk.new2 _ _ _ _ _
 have HK := Hd (hk W2 _ _ (SliceOf.stays exE_stays (keeps_of_below hb2) ha0) (SliceOf.stays exE_stays (keeps_of_below hb2) ha0'))
 have HB2 := Hd hb2
 obtain ⟨q0, q1, q2, q3, q4, q5, q6⟩ := hB.cells7
 obtain ⟨r0, r1, r2, r3, r4, r5, r6⟩ := hC.cells7
 clear hB hC hb2 m0 m1 z2 ha0 ha0' hk h1 h1' h2 h2'
 go_enter Tryz.func74, Tryz.ntmps74
 go_wp2_with (fail)
 refine HK.out.mono ?_
 rintro e w3 ⟨rfl, hb3⟩
 have HB3 := Hd (HB2.out.trans (hb3.mono HB2.out.size))
 clear hb3
 go_wp2_with (fail)
 go_ret
 exact ⟨rfl, HB3.out⟩
theorem atE_deep : ∀ (n : Nat) (x : Ex) (va vb : Value) (w : World), deepE x ≤ n → ExIs w x va → ExIs w x vb → Calls Tryz.prog 74 #[va, vb] w fun e w' => e = .returned (.bool true) ∧ Below w.heap.size w w' := by
 intro n
 induction n with
 | zero => intro x va vb w h; rw [deepE_eq] at h; omega
 | succ n ih =>
   intro x va vb w h hx hy
   refine atE_step x va vb w hx hy fun W v u hv hu => ?_
   have eg : ∀ args w, (callFunc 74 args).run Tryz.prog w = .ok (.enter 74 args) w := enters_at Tryz.func74 (by kernel_rfl) rfl
   have hd : ∀ {k : Nat} (h1 : k < x.kids.length), deepE x.kids[k] ≤ n := fun h1 => by rw [deepE_eq] at h; have := deepL_at h1; omega
   have := equalEx_calls x.kids x.kids v u 74 #[] W hv hu eg (fun k h1 h2 W va vb hb ha hb' => by
    rw [sameE_refl _ _ (Nat.le_refl _)]
    simpa using ih x.kids[k] va vb W (hd h1) ha hb')
   rw [eqF_all rfl fun k h1 h2 => sameE_refl _ _ (Nat.le_refl _)] at this
   exact this
theorem atE_calls (x : Ex) (va vb : Value) (w : World) (hx : ExIs w x va) (hy : ExIs w x vb) : Calls Tryz.prog 74 #[va, vb] w fun e w' => e = .returned (.bool true) ∧ Below w.heap.size w w' := atE_deep _ x va vb w (Nat.le_refl _) hx hy
theorem spots_calls (x : Ex) (va vb : Value) (w : World) (hx : ExIs w x va) (hy : ExIs w x vb) : Calls Tryz.prog 31 #[va, vb] w fun e w' => e = .returned (.bool true) ∧ Below w.heap.size w w' := by
 have hx0 := hx
 have hy0 := hy
 obtain ⟨vl, wa, rfl, hl, ha⟩ := hx
 obtain ⟨pl, cl, rfl, h1⟩ := hl
 obtain ⟨pa, ca, rfl, h2⟩ := ha
 obtain ⟨vl, wa, rfl, hl', ha'⟩ := hy
 obtain ⟨pl', cl', rfl, h1'⟩ := hl'
 obtain ⟨pa', ca', rfl, h2'⟩ := ha'
 obtain ⟨W2, eW⟩ : ∃ W2, (w.alloc (.cells #[.int .i64 x.kind, .int .i64 x.at_, .int .i64 x.num, .int .i64 x.ty, .string x.name, .slice pl x.lab.length cl, .slice pa x.kids.length ca] 26)).alloc (.cells #[.int .i64 x.kind, .int .i64 x.at_, .int .i64 x.num, .int .i64 x.ty, .string x.name, .slice pl' x.lab.length cl', .slice pa' x.kids.length ca'] 26) = W2 := ⟨_, rfl⟩
 obtain ⟨z2, hb2, m0, m1⟩ := boxes2 eW
 have hB : Blk W2 w.heap.size (exC x (.slice pl x.lab.length cl) (.slice pa x.kids.length ca)) 26 := by rw [← eW]; exact (Blk.new _ _ _).below ((Below.refl _ _).alloc (Nat.le_refl _) _)
 have hC : Blk W2 (w.heap.size + 1) (exC x (.slice pl' x.lab.length cl') (.slice pa' x.kids.length ca')) 26 := by rw [← eW]; exact Blk.new2 _ _ _ _ _
 have HK := Hd (atE_calls x _ _ W2 (hx0.stays (keeps_of_below hb2)) (hy0.stays (keeps_of_below hb2)))
 have HB2 := Hd hb2
 obtain ⟨q0, q1, q2, q3, q4, q5, q6⟩ := hB.cells7
 obtain ⟨r0, r1, r2, r3, r4, r5, r6⟩ := hC.cells7
 clear hB hC hb2 m0 m1 z2 hx0 hy0 h1 h1' h2 h2'
 go_enter Tryz.func31, Tryz.ntmps31
 go_wp2_with (fail)
 refine HK.out.mono ?_
 rintro e w3 ⟨rfl, hb3⟩
 have HB3 := Hd (HB2.out.trans (hb3.mono HB2.out.size))
 clear hb3
 go_wp2_with (fail)
 go_ret
 exact ⟨rfl, HB3.out⟩
end
section
open Go.RowKit
def blanksB : List UInt8 := [32, 9, 10]
section
variable {s : Txt} {a : Nat}
theorem tok_blank (h : a < s.size) (hb : blanksB.contains s[a] = true) : stepOf s a (s[a].toNat) = .skip 1 := by
 have : s[a] = 32 ∨ s[a] = 9 ∨ s[a] = 10 := by simpa [blanksB] using hb
 rcases this with e | e | e <;> (rw [e]; rfl)
theorem notblank (h : a < s.size) (hb : blanksB.contains s[a] = false) : ((s[a].toNat : Int) == 32) = false ∧ ((s[a].toNat : Int) == 9) = false ∧ ((s[a].toNat : Int) == 10) = false := by
 have : ¬ (s[a] = 32 ∨ s[a] = 9 ∨ s[a] = 10) := by simpa [blanksB] using hb
 have hn : ∀ k : UInt8, s[a] ≠ k → ((s[a].toNat : Int) == (k.toNat : Int)) = false := fun k hk => by
  rw [beq_eq_false_iff_ne]
  intro e
  exact hk (UInt8.toNat_inj.1 (by omega))
 exact ⟨hn 32 fun e => this (.inl e), hn 9 fun e => this (.inr (.inl e)), hn 10 fun e => this (.inr (.inr e))⟩
theorem nothash (h : a < s.size) (hc : s[a] ≠ 35) : ((s[a].toNat : Int) == 35) = false := by
 rw [beq_eq_false_iff_ne]
 intro e
 exact hc (UInt8.toNat_inj.1 (by
  have : (35 : UInt8).toNat = 35 := rfl
  omega))
theorem tok_note (h : a < s.size) (hc : s[a] = 35) : stepOf s a (s[a].toNat) = .skip (runEnd noteB s a - a) := by
 rw [hc]; rfl
theorem step_word (h : a < s.size) (hb : blanksB.contains s[a] = false) (hc : s[a] ≠ 35) (hl : letterB (s[a].toNat) = true) : stepOf s a (s[a].toNat) = wordOf (s.extract a (runEnd wordB s a)) := by
 obtain ⟨h1, h2, h3⟩ := notblank h hb
 unfold stepOf
 rw [h1, h2, h3, nothash h hc, hl]
 rfl
theorem step_num (h : a < s.size) (hb : blanksB.contains s[a] = false) (hc : s[a] ≠ 35) (hl : letterB (s[a].toNat) = false) (hd : digitB (s[a].toNat) = true) : stepOf s a (s[a].toNat) = numOf (s[a].toNat) (s.extract a (runEnd digitB s a)) := by
 obtain ⟨h1, h2, h3⟩ := notblank h hb
 unfold stepOf
 rw [h1, h2, h3, nothash h hc, hl, hd]
 rfl
theorem step_sign (h : a < s.size) (hb : blanksB.contains s[a] = false) (hc : s[a] ≠ 35) (hl : letterB (s[a].toNat) = false) (hd : digitB (s[a].toNat) = false) : stepOf s a (s[a].toNat) = signOf s a := by
 obtain ⟨h1, h2, h3⟩ := notblank h hb
 unfold stepOf
 rw [h1, h2, h3, nothash h hc, hl, hd]
 rfl
theorem rest_extract (h : a ≤ s.size) : (s.extract a s.size).data.toList = restOf s a := by
 show bytesOf _ = _
 rw [bytesOf_extract]
 unfold restOf
 rw [List.take_of_length_le]
 rw [List.length_drop, bytesOf_len]
 exact Nat.le_refl _
theorem rest_size : (restOf s a).length = s.size - a := by unfold restOf; rw [List.length_drop, bytesOf_len]
theorem note_some (h : a < s.size) {k : Nat} (hk : Lib.indexByte (restOf s a) 10 = k) : runEnd noteB s a - a = k := by
 obtain ⟨h1, h2⟩ := Lib.indexByte_some hk
 unfold runEnd
 have : (restOf s a).takeWhile (fun b => noteB b.toNat) = (restOf s a).take k := by
  have hlt : k < (restOf s a).length := by
   have := (List.getElem?_eq_some_iff.1 h1).1
   exact this
  have e : restOf s a = (restOf s a).take k ++ (10 : UInt8) :: (restOf s a).drop (k + 1) := by
   have e1 : (restOf s a)[k] = 10 := (List.getElem?_eq_some_iff.1 h1).2
   rw [← e1, ← List.drop_eq_getElem_cons hlt, List.take_append_drop]
  rw [e, List.takeWhile_append_of_pos (fun b hb => by
   obtain ⟨j, hj, rfl⟩ := List.getElem_of_mem hb
   have hj' : j < k := by simp at hj; omega
   have hne := h2 j hj'
   rw [List.getElem_take]
   unfold noteB
   rw [bne_iff_ne]
   intro e2
   apply hne
   rw [List.getElem?_eq_getElem (by omega)]
   congr 1
   apply UInt8.toNat_inj.1
   have : (10 : UInt8).toNat = 10 := rfl
   omega), List.takeWhile_cons, if_neg (by decide), List.append_nil]
  simp [List.take_append_of_le_length, List.length_take, Nat.min_eq_left (Nat.le_of_lt hlt)]
 rw [this, List.length_take]
 have := (List.getElem?_eq_some_iff.1 h1).1
 omega
theorem note_none (h : a < s.size) (hk : Lib.indexByte (restOf s a) 10 = -1) : runEnd noteB s a = s.size := by
 have h2 := Lib.indexByte_none hk
 unfold runEnd
 have : (restOf s a).takeWhile (fun b => noteB b.toNat) = restOf s a := by
  refine tw_all fun b hb => ?_
  obtain ⟨j, hj⟩ := List.mem_iff_getElem?.1 hb
  unfold noteB
  rw [bne_iff_ne]
  intro e2
  apply h2 j
  rw [hj]
  congr 1
  apply UInt8.toNat_inj.1
  have : (10 : UInt8).toNat = 10 := rfl
  omega
 rw [this, rest_size]
 omega
theorem trim_run {q : Int → Bool} {cut : List UInt8} (hcut : ∀ b : UInt8, cut.contains b = q b.toNat) : (s.size - a) - (Lib.trimLeftS (restOf s a) cut).length = runEnd q s a - a := by
 have e1 : (restOf s a).dropWhile (cut.contains ·) = (restOf s a).dropWhile fun b => q b.toNat := by
  congr 1
  funext b
  exact hcut b
 unfold Lib.trimLeftS runEnd
 rw [e1]
 have h1 : ((restOf s a).takeWhile fun b => q b.toNat).length + ((restOf s a).dropWhile fun b => q b.toNat).length = s.size - a := by
  rw [← List.length_append, List.takeWhile_append_dropWhile, rest_size]
 omega
theorem cut_run {q : Int → Bool} (h : a ≤ s.size) : (s.extract a s.size).extract 0 (runEnd q s a - a) = s.extract a (runEnd q s a) := by
 have h1 := runEnd_ge q s a
 have h2 := runEnd_le (q := q) h
 apply txt_ext
 rw [bytesOf_extract, bytesOf_extract, bytesOf_extract]
 simp only [Nat.sub_zero, List.drop_zero]
 rw [List.take_take]
 congr 1
 omega
theorem run_head {q : Int → Bool} (h : a < s.size) (hq : q (s[a].toNat) = true) : ∃ u, bytesOf (s.extract a (runEnd q s a)) = s[a] :: u ∧ ∀ b ∈ s[a] :: u, q b.toNat = true := by
 rw [run_txt, bytesOf_txtOf]
 unfold runB
 rw [rest_cons h, List.takeWhile_cons, if_pos hq]
 refine ⟨_, rfl, fun b hb => ?_⟩
 rcases List.mem_cons.1 hb with rfl | hb
 · exact hq
 · exact tw_mem hb
theorem name_run (h : a < s.size) (hl : letterB (s[a].toNat) = true) {t : Txt} (ht : s.extract a (runEnd wordB s a) = t) (hw : isWord t = false) : isName t = decide (t.size ≤ 12) := by
 obtain ⟨u, e, hall⟩ := run_head (q := wordB) h (by unfold wordB; rw [hl]; rfl)
 rw [ht] at e
 have hsz : 1 ≤ t.size := by rw [← bytesOf_len, e]; simp
 by_cases h12 : t.size ≤ 12
 · rw [name_law t hsz h12 hw]
   have h1 : Lib.trimS (bytesOf t) (lettersB ++ figuresB) = [] := trim_nil.2 fun b hb => by
    rw [wordset_mem]
    rw [e] at hb
    exact hall b hb
   have h2 : t.data.toList.getD 0 0 = s[a] := by
    show (bytesOf t).getD 0 0 = _
    rw [e]; rfl
   rw [h1, h2, figures_mem]
   have : digitB (s[a].toNat) = false := by
    unfold letterB at hl
    unfold digitB
    simp at hl ⊢
    omega
   rw [this]
   simp [h12]
 · rw [isName_long (by omega)]
   simp [h12]
theorem tok_word (h : a < s.size) (hb : blanksB.contains s[a] = false) (hc : s[a] ≠ 35) (hl : letterB (s[a].toNat) = true) {t : Txt} (ht : s.extract a (runEnd wordB s a) = t) :
 stepOf s a (s[a].toNat) = if isWord t then .tok 3 t else if 12 < t.size then .bad 2 else .tok 1 t := by
 rw [step_word h hb hc hl, ht]
 unfold wordOf
 cases hw : isWord t with
 | true => rfl
 | false =>
   rw [name_run h hl ht hw]
   by_cases h12 : t.size ≤ 12
   · simp [h12, Nat.not_lt.2 h12]
   · simp [h12]
theorem tok_num (h : a < s.size) (hb : blanksB.contains s[a] = false) (hc : s[a] ≠ 35) (hl : letterB (s[a].toNat) = false) (hd : digitB (s[a].toNat) = true) {t : Txt} (ht : s.extract a (runEnd digitB s a) = t) :
 stepOf s a (s[a].toNat) = if 9 < t.size then .bad 3 else if s[a] = 48 ∧ t ≠ ⟨#[48]⟩ then .bad 3 else .tok 2 t := by
 rw [step_num h hb hc hl hd, ht]
 unfold numOf
 obtain ⟨u, e, hall⟩ := run_head (q := digitB) h hd
 rw [ht] at e
 have hsz : t.size = u.length + 1 := by rw [← bytesOf_len, e]; simp
 by_cases h9 : 9 < t.size
 · rw [if_pos h9, if_pos h9]
 · rw [if_neg h9, if_neg h9]
   have h48 : ((s[a].toNat : Int) = 48) ↔ s[a] = 48 := by
    constructor
    · intro e2
      apply UInt8.toNat_inj.1
      have : (48 : UInt8).toNat = 48 := rfl
      omega
    · intro e2; rw [e2]; rfl
   by_cases hz : s[a] = 48
   · have hiff : 1 < t.size ↔ t ≠ ⟨#[48]⟩ := by
      constructor
      · rintro h1 rfl
        have : (⟨#[48]⟩ : Txt).size = 1 := rfl
        omega
      · intro hne
        apply Decidable.byContradiction
        intro hn
        have hu : u = [] := List.eq_nil_of_length_eq_zero (by omega)
        apply hne
        apply txt_ext
        rw [e, hu, hz]
        rfl
     by_cases h1 : 1 < t.size
     · rw [if_pos ⟨h1, h48.2 hz⟩, if_pos ⟨hz, hiff.1 h1⟩]
     · rw [if_neg (fun h => h1 h.1), if_neg (fun h => h1 (hiff.2 h.2))]
   · rw [if_neg (fun h => hz (h48.1 h.2)), if_neg (fun h => hz h.1)]
def longer (r : List UInt8) (t w : Txt) : Txt := if Lib.hasPrefix r w.data.toList && decide (t.size < w.size) then w else t
def longest (r : List UInt8) (W : List Txt) : Txt := W.foldl (longer r) ⟨#[]⟩
theorem longer_keep {r : List UInt8} : ∀ {W : List Txt} {t : Txt}, (∀ w ∈ W, w.size ≤ t.size) → W.foldl (longer r) t = t
 | [], _, _ => rfl
 | w :: W, t, h => by
   have h1 : longer r t w = t := by
    unfold longer
    rw [if_neg]
    intro hh
    rw [Bool.and_eq_true, decide_eq_true_eq] at hh
    have := h w List.mem_cons_self
    omega
   rw [List.foldl_cons, h1]
   exact longer_keep fun x hx => h x (List.mem_cons_of_mem _ hx)
theorem longest_first {r : List UInt8} : ∀ {W : List Txt}, (∀ w ∈ W, 0 < w.size) → W.Pairwise (fun x y => y.size ≤ x.size) → W.foldl (longer r) ⟨#[]⟩ = (W.find? fun x => Lib.hasPrefix r x.data.toList).getD ⟨#[]⟩
 | [], _, _ => rfl
 | w :: W, h0, hp => by
   rw [List.pairwise_cons] at hp
   have hw := h0 w List.mem_cons_self
   rw [List.foldl_cons, List.find?_cons]
   cases hx : Lib.hasPrefix r w.data.toList with
   | true =>
     have h1 : longer r ⟨#[]⟩ w = w := by
      unfold longer
      rw [if_pos]
      rw [hx, Bool.true_and, decide_eq_true_eq]
      exact hw
     rw [h1, longer_keep hp.1]
     rfl
   | false =>
     have h1 : longer r ⟨#[]⟩ w = ⟨#[]⟩ := by
      unfold longer
      rw [hx]
      rfl
     rw [h1]
     exact longest_first (fun x hx => h0 x (List.mem_cons_of_mem _ hx)) hp.2
theorem signs_size : ∀ w ∈ signsL, 0 < w.size := by decide +kernel
theorem signs_down : signsL.Pairwise fun x y => y.size ≤ x.size := by decide +kernel
theorem tok_sign (h : a < s.size) (hb : blanksB.contains s[a] = false) (hc : s[a] ≠ 35) (hl : letterB (s[a].toNat) = false) (hd : digitB (s[a].toNat) = false) :
 stepOf s a (s[a].toNat) = if longest (restOf s a) signsL = ⟨#[]⟩ then .bad 1 else .tok 4 (longest (restOf s a) signsL) := by
 rw [step_sign h hb hc hl hd]
 unfold signOf longest
 rw [longest_first signs_size signs_down]
 have e : signsL.find? (signAt s a) = signsL.find? fun x => Lib.hasPrefix (restOf s a) x.data.toList := rfl
 rw [← e]
 cases hf : signsL.find? (signAt s a) with
 | none => rfl
 | some x =>
   have hx := signs_size x (List.mem_of_find?_eq_some hf)
   simp only [Option.getD_some]
   rw [if_neg]
   rintro rfl
   exact absurd hx (by decide)
end
end
section
open Go.RowKit
theorem has_char {s : Txt} {k : Nat} (h : k < s.size) {c : Txt} (hc : s.extract k (k + 1) = c) {L : List UInt8} {P : Txt} (hp : P.data.toList = L) : Lib.contains P.data.toList c.data.toList = L.contains s[k] := by
 have e : c.data.toList = [s[k]] := by
  rw [← hc]
  show bytesOf _ = _
  rw [bytesOf_extract]
  have := rest_cons h
  unfold restOf at this
  rw [this, show k + 1 - k = 1 by omega]
  rfl
 rw [e, hp, contains_mem]
theorem char_is {s : Txt} {k : Nat} (h : k < s.size) {c : Txt} (hc : s.extract k (k + 1) = c) (b : UInt8) : c = ⟨#[b]⟩ ↔ s[k] = b := by
 have e : bytesOf c = [s[k]] := by
  rw [← hc, bytesOf_extract]
  have := rest_cons h
  unfold restOf at this
  rw [this, show k + 1 - k = 1 by omega]
  rfl
 constructor
 · rintro rfl
   have : [b] = [s[k]] := e
   exact (List.cons.inj this).1.symm
 · intro hb
   apply txt_ext
   rw [e, hb]
   rfl
theorem failF_calls (c k : Int) (g : Nat) (w : World) (h : w.cell? ⟨g, 0, none⟩ = some (.int .i64 k)) :
 Calls Tryz.prog 195 #[.int .i64 c, .pointer (some ⟨g, 0, none⟩)] w fun e w' => e = .returned (.tuple #[.slice none 0 0, .agg #[.int .i64 c, .int .i64 k]]) ∧ Below w.heap.size w w' := by
 obtain ⟨W1, eW⟩ : ∃ W1, w.alloc (.cells #[.int .i64 0, .int .i64 0] 35) = W1 := ⟨_, rfl⟩
 obtain ⟨z1, hW, m1⟩ := boxes1 eW
 have y0 := m1 0
 have y1 := m1 1
 simp only [List.getElem?_toArray, List.getElem?_cons_zero, List.getElem?_cons_succ] at y0 y1
 have hff : ∀ j, W1.frozen? ⟨w.heap.size, j, none⟩ = false := fun j => by rw [← eW]; exact World.frozen?_alloc_at _ _ _ _ rfl
 have k1 : W1.cell? ⟨g, 0, none⟩ = some (.int .i64 k) := (hW.cell (cell_lt h)).trans h
 have q0 := hff 0
 have q1 := hff 1
 have HW := Hd hW
 have HY0 := Hd y0
 have HY1 := Hd y1
 clear m1 hW z1 h hff
 go_enter Tryz.func195, Tryz.ntmps195
 go_wp2
 go_region
 all_goals go_wp2
 all_goals refine bodyPost_ret (v := .tuple #[.slice none 0 0, .agg #[.int .i64 c, .int .i64 k]]) ?_ rfl ⟨rfl, ?_⟩
 · obtain ⟨g0, g1⟩ := fault_cells HY0.out HY1.out (.int .i64 c) (.int .i64 k)
   simp [results, Tryz.results195, go_sem, g0, g1]
 · exact ((HW.out.setCell (Nat.le_refl _) _).setCell (Nat.le_refl _) _).drew
theorem trimLeft_calls (r cut : Txt) (w : World) (h2 : 2 ≤ cut.size) (hc : cut.size < 4294967281) (ha : ∀ (j : Nat) b, cut.data.toList[j]? = some b → b.toNat < 128) (h0 : 0 < r.size) {T : Txt} (hT : (⟨(Lib.trimLeftS r.data.toList cut.data.toList).toArray⟩ : Txt) = T) :
 Calls Tryz.prog 196 #[.string r, .string cut] w fun e w' => e = .returned (.string T) ∧ w' = (w.alloc (.cells (Lib.setCells cut.data.toList) 216)).alloc (.cells (Lib.setCells cut.data.toList) 216) := by
 subst hT
 have hz : (Tryz.prog.info? 216).map (fun i => (i.zero, i.size)) = some (some (.agg (Array.replicate 256 (.bool false))), 256) := by kernel_rfl
 exact Any.strings_TrimLeft_set Tryz.lays161 (zero_of_info hz).1 (zero_of_info hz).2 r cut w h2 h0 hc ha
def signsText : Txt := ⟨#[38,38,32,124,124,32,61,61,32,33,61,32,60,61,32,62,61,32,43,32,45,32,42,32,47,32,37,32,60,32,62,32,33,32,40,32,41,32,123,32,125,32,44,32,59,32,58,32,61]⟩
theorem signs_fields : (Lib.fields signsText.data.toList).map (fun l => (⟨l.toArray⟩ : Txt)) = signsL := by decide +kernel
theorem tab_below {w w' : World} {l : List Int} (h : Lib.TabIs Tryz.prog w "strings.asciiSpace" .u8 l) (hb : Below w.heap.size w w') : Lib.TabIs Tryz.prog w' "strings.asciiSpace" .u8 l := by
 have hgn : Tryz.prog.globalNamed "strings.asciiSpace" = some 1 := by kernel_rfl
 unfold Lib.TabIs World.var? at h ⊢
 rw [hgn] at h ⊢
 simp only [Option.bind_some] at h ⊢
 have hlt : 1 < w.heap.size := by
  rcases Nat.lt_or_ge 1 w.heap.size with h' | h'
  · exact h'
  · rw [Array.getElem?_eq_none h'] at h; cases h
 rw [hb.block _ hlt]
 exact h
end
end Go.Proofs.YtmepcmnpmhhiiaaGreatDoor
