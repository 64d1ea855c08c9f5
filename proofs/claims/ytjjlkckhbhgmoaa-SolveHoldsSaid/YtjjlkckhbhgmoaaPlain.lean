/-
  label.plain: a policy with its readers rising, each once, without its owner.
-/
import Derived.Test.YtjjlkckhbhgmoaaCompare
import Derived.Test.YtjjlkckhbhgmoaaShelfG
import Derived.Test.YtjjlkckhbhgmoaaFuncs
import Derived.Sort.OwnSorted
import Derived.OneCell
namespace Go.Proofs.Ytjjlkckhbhgmoaa
open Go.RowKit Go.Sort
set_option linter.unusedVariables false
set_option linter.unusedSimpArgs false

theorem encStr_txt (s : Txt) : encStr (bytesOf s) = .string s := by
  show Value.string ⟨(bytesOf s).toArray⟩ = _
  rw [show (⟨(bytesOf s).toArray⟩ : ByteArray) = txtOf (bytesOf s) from rfl, txtOf_bytes]
theorem enc_map (l : List Txt) : (l.map bytesOf).map encStr = l.map Value.string := by
  rw [List.map_map]
  exact List.map_congr_left fun x _ => encStr_txt x
theorem bytes_inj' {a b : Txt} (h : bytesOf a = bytesOf b) : a = b := txt_ext h
theorem dedupFrom_map {α β : Type} [DecidableEq α] [DecidableEq β] {f : α → β} (hf : ∀ a b, f a = f b → a = b) (p : α) (l : List α) : dedupFrom (f p) (l.map f) = (dedupFrom p l).map f := by
  induction l generalizing p with
  | nil => rfl
  | cons x l ih =>
    rw [List.map_cons]
    unfold dedupFrom
    by_cases e : x = p
    · rw [if_pos e, if_pos (by rw [e]), ih]
    · rw [if_neg e, if_neg (fun h => e (hf _ _ h)), ih, List.map_cons]
theorem dedup_map {α β : Type} [DecidableEq α] [DecidableEq β] {f : α → β} (hf : ∀ a b, f a = f b → a = b) (l : List α) : dedup (l.map f) = (dedup l).map f := by
  cases l with
  | nil => rfl
  | cons x l =>
    show f x :: dedupFrom (f x) (l.map f) = (x :: dedupFrom x l).map f
    rw [dedupFrom_map hf]; rfl
theorem sort_bytes (l : List Txt) : (l.map bytesOf).mergeSort (fun x y => decide (x ≤ y)) = (srt cmpT l).map bytesOf := by
  unfold srt
  rw [List.map_mergeSort (s := fun x y => decide (x ≤ y))]
  intro a _ b _
  rw [decide_eq_decide]
  have h1 := compareBytes_lt (bytesOf b) (bytesOf a)
  have h2 := cmpT_tot.anti b a
  have e : Lib.compareBytes (bytesOf b) (bytesOf a) = cmpT b a := rfl
  rw [e] at h1
  constructor
  · intro h h3
    have := h1.2 h3
    omega
  · intro h
    have : ¬ cmpT b a < 0 := fun h3 => h (h1.1 h3)
    omega
/-- The texts that are left of some bytes' lists, sorted, each once. -/
theorem plain_bytes (o : Txt) (l : List Txt) : ((Lib.compact ((l.map bytesOf).mergeSort fun x y => decide (x ≤ y))).filter fun x => !(txtOf x == o)) = (plainR o l).map bytesOf := by
  rw [compact_dedup, sort_bytes, dedup_map (fun _ _ h => bytes_inj' h), List.filter_map]
  unfold plainR
  congr 1
theorem plainR_le (o : Txt) (l : List Txt) : (plainR o l).length ≤ (dedup (srt cmpT l)).length := List.length_filter_le _ _
theorem dedup_le {α : Type} [DecidableEq α] (l : List α) : (dedup l).length ≤ l.length := by
  have : ∀ (p : α) (l : List α), (dedupFrom p l).length ≤ l.length := by
    intro p l
    induction l generalizing p with
    | nil => exact Nat.le_refl _
    | cons x l ih =>
      unfold dedupFrom
      split
      · have := ih p; simp; omega
      · have := ih x; simp; omega
  cases l with
  | nil => exact Nat.le_refl _
  | cons x l => have := this x l; show (x :: dedupFrom x l).length ≤ _; simp; exact this

theorem plainF_calls (x o : Txt) (g : Nat) (W : World) (h : W.cell? ⟨g, 0, none⟩ = some (.string o)) :
    Calls Try.prog 67 #[.string x, .pointer (some ⟨g, 0, none⟩)] W fun e w' => e = .returned (.bool (x == o)) ∧ W = w' := by
  by_cases hx : x = o
  · have hx' : (x.toList == o.toList) = true := bytes_eq.2 hx
    have HE : Hid ((x == o) = true) := by unfold Hid; simpa using hx
    clear hx
    go_enter Try.func67, Try.ntmps67
    go_wp2
    go_ret
    exact ⟨by rw [HE.out]; rfl, rfl⟩
  · have hx' : (x.toList == o.toList) = false := text_ne hx
    have HE : Hid ((x == o) = false) := by unfold Hid; simpa using hx
    clear hx
    go_enter Try.func67, Try.ntmps67
    go_wp2
    go_ret
    exact ⟨by rw [HE.out]; rfl, rfl⟩

theorem delStr_calls (g cap : Nat) (ss : List (List UInt8)) (o : Txt) (box : Nat) (w : World) (hH : Holds encStr w g 0 ss.toArray) (hb : w.cell? ⟨box, 0, none⟩ = some (.string o)) (hne : box ≠ g) (hlt : g < w.heap.size) (hsz : ss.length ≤ 9223372036854775807) (hcap : ss.length ≤ cap) :
    Calls Try.prog 65 #[.slice (some ⟨g, 0, none⟩) ss.length cap, .func (.func 67) #[] #[.pointer (some ⟨box, 0, none⟩)]] w fun e w' => e = .returned (.slice (some ⟨g, 0, none⟩) (ss.filter fun x => !(txtOf x == o)).length cap) ∧
      ∃ q, w' = putRow encStr (Sort.ahead w q) g 0 ((ss.filter fun x => !(txtOf x == o)) ++ List.replicate (ss.length - (ss.filter fun x => !(txtOf x == o)).length) []).toArray := by
  have eg : ∀ args w, (callFunc 67 args).run Try.prog w = .ok (.enter 67 args) w := enters_at Try.func67 (by kernel_rfl) rfl
  have hbl : box < w.heap.size := cell_lt hb
  have hp : PredAt Try.prog 67 #[.pointer (some ⟨box, 0, none⟩)] encStr (fun x => txtOf x == o) w := fun W x hW =>
    (plainF_calls (txtOf x) o box W ((hW.cell (p := ⟨box, 0, none⟩) hbl).trans hb)).mono fun e w' ⟨he, hw⟩ => ⟨he, 0, hw.symm⟩
  have hpo : PredOver Try.prog 67 #[.pointer (some ⟨box, 0, none⟩)] encStr (fun x => txtOf x == o) g 0 ss.toArray.size w := fun n os dk x _ =>
    (plainF_calls (txtOf x) o box _ (by
      unfold sortWorld
      rw [cell?_grow _ _ _ (by simpa using hbl), cell?_putRow_other _ _ _ _ _ _ (.inl hne)]
      exact hb)).mono fun e w' ⟨he, hw⟩ => ⟨he, 0, hw.symm⟩
  have h := AnyE.slices_DeleteFunc Try.delStr encStr (fun _ => rfl) (fun x => txtOf x == o) 67 #[.pointer (some ⟨box, 0, none⟩)] eg [] (fun w => Try.zeroValue9 w) g 0 cap ss.toArray w hp hpo hH (by simpa using hsz) (by simpa using hcap)
  change Calls Try.prog 65 _ _ _ at h
  simpa using h

/-- slices.IndexFunc at no text. -/
theorem idxNil_calls (a : Option Addr) (c fn : Nat) (lb : Array Value) (w : World) :
    Calls Try.prog 51 #[.slice a 0 c, .func (.func fn) #[] lb] w fun e w' => e = .returned (.int .i64 (-1)) ∧ w' = w := by
  go_enter Try.func51, Try.ntmps51
  go_wp2
  go_loop [5, 8] (fun _ i => i = .int .i64 0) (fun _ _ => 0)
  case atStart => rfl
  case round =>
    subst hrel
    go_wp2
    go_ret
    exact ⟨rfl, rfl⟩
/-- slices.DeleteFunc at no text. -/
theorem delNil_calls (a : Option Addr) (c fn : Nat) (lb : Array Value) (w : World) :
    Calls Try.prog 65 #[.slice a 0 c, .func (.func fn) #[] lb] w fun e w' => e = .returned (.slice a 0 c) ∧ w' = w := by
  go_enter Try.func65, Try.ntmps65
  go_wp2_with (fail)
  refine (idxNil_calls _ _ _ _ _).mono ?_
  rintro e w1 ⟨rfl, rfl⟩
  go_wp2
  go_ret
  exact ⟨rfl, rfl⟩
theorem grown_setCell (w : World) (a : Addr) (u : Value) : w.grownBy (w.setCell a u) (some a.block) :=
  ⟨rfl, rfl, rfl, by simp [World.setCell], fun k _ hne => Below.heap_setCell _ _ _ _ (fun e => hne (by rw [e]))⟩
theorem pair_cells {w : World} {fb : Nat} {x y : Value} (h0 : w.cell? ⟨fb, 0, none⟩ = some x) (h1 : w.cell? ⟨fb, 1, none⟩ = some y) (c a : Value) :
    ((w.setCell ⟨fb, 0, none⟩ c).setCell ⟨fb, 1, none⟩ a).cell? ⟨fb, 0, none⟩ = some c ∧ ((w.setCell ⟨fb, 0, none⟩ c).setCell ⟨fb, 1, none⟩ a).cell? ⟨fb, 1, none⟩ = some a :=
  ⟨(World.cell?_setCell_other _ _ _ _ (by simp)).trans (World.cell?_setCell_same _ _ _ h0), World.cell?_setCell_same _ _ _ ((World.cell?_setCell_other _ _ _ _ (by simp)).trans h1)⟩
/-- Texts that lie from a block on. -/
def Own (N : Nat) (w : World) (l : List Txt) (v : Value) : Prop := ∃ p c, v = .slice p l.length c ∧ l.length ≤ c ∧ c ≤ maxLen ∧
  (l = [] ∨ ∃ b o, N ≤ b ∧ p = some ⟨b, o, none⟩ ∧ ∀ (i : Nat) (h : i < l.length), w.cell? ⟨b, o + i, none⟩ = some (.string l[i]))
theorem Own.strs {N : Nat} {w : World} {l : List Txt} {v : Value} (h : Own N w l v) : Strs w l v := by
  obtain ⟨p, c, e, h1, h2, h3⟩ := h
  refine ⟨p, c, e, h1, h2, ?_⟩
  rcases h3 with rfl | ⟨b, o, _, hp, h3⟩
  · exact .inl rfl
  · refine .inr ⟨b, o, hp, fun i hi => ⟨[.string l[i]], rfl, rfl, fun j x hx => ?_⟩⟩
    match j, hx with
    | 0, hx =>
      simp at hx
      subst hx
      first | exact h3 i hi | (simp; done) | (simp; exact h3 i hi)
/-- They stay where one block ahead of them is written. -/
theorem Own.stays {N : Nat} {w w' : World} {l : List Txt} {v : Value} {M : Option Nat} (h : Own N w l v) (hg : w.grownBy w' M) (hM : ∀ k, M = some k → k < N) : Own N w' l v := by
  obtain ⟨p, c, e, h1, h2, h3⟩ := h
  refine ⟨p, c, e, h1, h2, ?_⟩
  rcases h3 with rfl | ⟨b, o, hb, hp, h3⟩
  · exact .inl rfl
  · refine .inr ⟨b, o, hb, hp, fun i hi => hg.cell (h3 i hi) fun e => ?_⟩
    have e' : some b = M := e
    have := hM b e'.symm
    omega
theorem own_of_holds {w : World} {g cap N : Nat} {F : List (List UInt8)} {pad : List (List UInt8)} {l : List Txt} (hN : N ≤ g) (hF : F = l.map bytesOf) (h : Holds encStr w g 0 (F ++ pad).toArray) (h1 : l.length ≤ cap) (h2 : cap ≤ maxLen) : Own N w l (.slice (some ⟨g, 0, none⟩) l.length cap) := by
  subst hF
  refine ⟨_, _, rfl, h1, h2, .inr ⟨g, 0, hN, rfl, fun i hi => ?_⟩⟩
  have h3 := (h i (by simp; omega)).1
  have e : (l.map bytesOf ++ pad).toArray[i]! = bytesOf l[i] := by
    rw [getElem!_pos _ i (by simp; omega)]
    simp [List.getElem_append_left, hi]
  rw [e, encStr_txt] at h3
  exact h3
theorem holds_prefix {w : World} {g : Nat} {F pad : List (List UInt8)} (h : Holds encStr w g 0 (F ++ pad).toArray) : Holds encStr w g 0 F.toArray := fun j hj => by
  have hj' : j < F.length := by simpa using hj
  have h3 := h j (by simp; omega)
  have e : (F ++ pad).toArray[j]! = F.toArray[j]! := by
    rw [getElem!_pos _ j (by simp; omega), getElem!_pos _ j hj]
    simp [List.getElem_append_left, hj']
  rw [e] at h3
  exact h3
theorem grownBy_put {w : World} {g n : Nat} (d : Array (List UInt8)) : w.grownBy (putRow encStr (Sort.ahead w n) g 0 d) (some g) := by
  have := grownBy_sorted (w := w) (g := g) (n := n) (os := #[]) d
  rwa [grow_empty] at this

theorem cloneNil_calls (a : Option Addr) (c : Nat) (W : World) : Calls Try.prog 63 #[.slice a 0 c] W fun e w' => ∃ a' c', e = .returned (.slice a' 0 c') ∧ c' ≤ maxLen ∧ Below W.heap.size W w' := by
  cases a with
  | none =>
    refine (Try.slices_Clone_string_nil 0 c W).mono ?_
    rintro e w' ⟨he, hw⟩
    exact ⟨none, 0, he, by unfold maxLen; omega, by rw [hw]; exact Below.refl _ _⟩
  | some a =>
    refine (Try.slices_Clone_string_zero a c W).mono ?_
    rintro e w' ⟨v', he, hown, hnn, hb⟩
    rcases hown.2 with ⟨hnil, _⟩ | ⟨g, cap, cur, rfl, _, _, _, q2, _, _⟩
    · exact absurd hnil hnn
    · exact ⟨_, _, he, q2, hb⟩

set_option maxHeartbeats 2000000 in
set_option maxRecDepth 100000 in
theorem plain_calls (p : Pol) (vp : Value) (w : World) (hp : Strs w p.2 vp) (hn : p.2.length ≤ 1048576) :
    Calls Try.prog 44 #[.agg #[.string p.1, vp]] w fun e w' => ∃ v', e = .returned (.agg #[.string p.1, v']) ∧ Own (w.heap.size + 2) w' (plainR p.1 p.2) v' ∧ Below w.heap.size w w' := by
  obtain ⟨b, o, c, a, rfl, hlc, hc, ha, hcells⟩ := hp.cells
  obtain ⟨W2, eW⟩ : ∃ W2, (w.alloc (.cells #[.string p.1, .slice a p.2.length c] 58)).alloc (.cells #[.string ⟨#[]⟩, .slice none 0 0] 58) = W2 := ⟨_, rfl⟩
  obtain ⟨z2, hW, m1, m2⟩ := boxes2 eW
  have h10 := m1 0
  have h11 := m1 1
  have h20 := m2 0
  have h21 := m2 1
  simp only [List.getElem?_toArray, List.getElem?_cons_zero, List.getElem?_cons_succ] at h10 h11 h20 h21
  have f20 : W2.frozen? ⟨w.heap.size + 1, 0, none⟩ = false := by rw [← eW]; exact World.frozen?_alloc_at _ _ _ _ (by simp)
  have f21 : W2.frozen? ⟨w.heap.size + 1, 1, none⟩ = false := by rw [← eW]; exact World.frozen?_alloc_at _ _ _ _ (by simp)
  have hz : W2.heap.size = w.heap.size + 2 := z2
  have FIN : ∀ (w6 : World) (v6 : Value), Below W2.heap.size W2 w6 → Below w.heap.size w ((w6.setCell ⟨w.heap.size + 1, 0, none⟩ (.string p.1)).setCell ⟨w.heap.size + 1, 1, none⟩ v6) := fun w6 v6 h =>
    ((hW.trans (h.mono hW.size)).setCell (by simp) _).setCell (by simp) _
  have CEL : ∀ (w6 : World), Below W2.heap.size W2 w6 → w6.cell? ⟨w.heap.size, 0, none⟩ = some (.string p.1) ∧ w6.cell? ⟨w.heap.size + 1, 0, none⟩ = some (.string ⟨#[]⟩) ∧ w6.cell? ⟨w.heap.size + 1, 1, none⟩ = some (.slice none 0 0) ∧
      w6.frozen? ⟨w.heap.size + 1, 0, none⟩ = false ∧ w6.frozen? ⟨w.heap.size + 1, 1, none⟩ = false := fun w6 h =>
    ⟨(h.cell (p := ⟨w.heap.size, 0, none⟩) (by rw [hz]; simp)).trans h10, (h.cell (p := ⟨w.heap.size + 1, 0, none⟩) (by rw [hz]; simp)).trans h20, (h.cell (p := ⟨w.heap.size + 1, 1, none⟩) (by rw [hz]; simp)).trans h21,
      (h.frozen (p := ⟨w.heap.size + 1, 0, none⟩) (by rw [hz]; simp)).trans f20, (h.frozen (p := ⟨w.heap.size + 1, 1, none⟩) (by rw [hz]; simp)).trans f21⟩
  have HFIN := Lib.hid FIN
  have HCEL := Lib.hid CEL
  clear FIN CEL
  by_cases h0 : p.2.length = 0
  · have hnil : p.2 = [] := List.length_eq_zero_iff.1 h0
    have HPL : Hid (plainR p.1 p.2 = []) := by unfold Hid; rw [hnil]; simp [plainR, srt, dedup]
    have HCL := Lib.hid (cloneNil_calls a c)
    rw [h0] at eW h11 ⊢
    have HW := Lib.hid hW
    have H0 := Lib.hid h0
    clear hW z2 m1 m2 hcells ha h20 h21 f20 f21 h10 hz h0 hnil hp hlc
    go_enter Try.func44, Try.ntmps44
    go_wp2_with (fail)
    refine (HCL.out _).mono ?_
    rintro e w3 ⟨a3, c3, rfl, hc3, hb3⟩
    have HB3 := Lib.hid hb3
    have HC3 := Lib.hid hc3
    clear hb3 hc3
    go_wp2_with (fail)
    refine (Try.slices_Sort_string_none _ _ _).mono ?_
    rintro e w4 ⟨rfl, rfl⟩
    go_wp2_with (fail)
    refine (Try.slices_Compact_string_empty _ _ _).mono ?_
    rintro e w4 ⟨rfl, rfl⟩
    go_wp2_with (fail)
    refine (delNil_calls _ _ _ _ _).mono ?_
    rintro e w4 ⟨rfl, rfl⟩
    obtain ⟨x0, x1, x2, x3, x4⟩ := HCEL.out _ HB3.out
    go_wp2
    refine bodyPost_ret (v := .agg #[.string p.1, .slice a3 0 c3]) ?_ rfl ⟨_, rfl, ?_, HFIN.out _ _ HB3.out⟩
    · obtain ⟨g0, g1⟩ := pair_cells x1 x2 (.string p.1) (.slice a3 0 c3)
      simp [results, Try.results44, go_sem, g0, g1]
    · rw [HPL.out]
      exact ⟨a3, c3, rfl, Nat.zero_le _, HC3.out, .inl rfl⟩
  · obtain rfl := ha (by omega)
    obtain ⟨t0, hi, hz0, hz1, hz2⟩ := info_parts Try.info_string
    have HCL := Lib.hid (Try.slices_Clone_string b o p.2.length c p.2 W2 (Nat.le_refl _) (by omega) fun j hj => by
      have := hcells j hj
      rw [show p.2.getD j ByteArray.empty = p.2[j] by simp [List.getD, hj]]
      exact (hW.cell (cell_lt this)).trans this)
    rw [List.take_length] at HCL
    have HW := Lib.hid hW
    have HZ := Lib.hid hz
    have HN := Lib.hid hn
    clear hW z2 m1 m2 hcells ha h20 h21 f20 f21 h10 hz hn
    go_enter Try.func44, Try.ntmps44
    go_wp2_with (fail)
    refine HCL.out.mono ?_
    rintro e w3 ⟨v3, rfl, hown, hnn, hb3⟩
    rcases hown.2 with ⟨hnil, _⟩ | ⟨g, cap, cur, rfl, hbase, hblk, q1, q2, q3, q4⟩
    · exact absurd hnil hnn
    have HB3 := Lib.hid hb3
    have HG := Lib.hid hbase
    have HQ1 := Lib.hid q1
    have HQ2 := Lib.hid q2
    have hH3 : Holds encStr w3 g 0 (p.2.map bytesOf).toArray := holds_of_block hblk (by rw [enc_map, List.length_map]; simpa using q4)
    have hg3 : g < w3.heap.size := (Array.getElem?_eq_some_iff.1 hblk).1
    have HGL := Lib.hid hg3
    have HS := Try.slices_Sort_string g 0 cap (p.2.map bytesOf) w3 hH3 hg3 (by rw [List.length_map]; have := HN.out; omega)
    rw [List.length_map] at HS
    have hSl : ((p.2.map bytesOf).mergeSort fun x y => decide (x ≤ y)).length = p.2.length := by rw [List.length_mergeSort, List.length_map]
    have HSL := Lib.hid hSl
    have HH3 := Lib.hid hH3
    obtain ⟨S, hS⟩ : ∃ S, ((p.2.map bytesOf).mergeSort fun x y => decide (x ≤ y)) = S := ⟨_, rfl⟩
    rw [hS] at HS HSL
    have HSD := Lib.hid hS
    have HSC := Lib.hid HS
    clear hown hnn hb3 hbase hblk q1 q2 q3 q4 hH3 hg3 HS hSl hS HCL
    go_wp2_with (fail)
    refine HSC.out.mono ?_
    rintro e w4 ⟨rfl, n4, os4, hw4⟩
    have hH4 : Holds encStr w4 g 0 S.toArray := by
      rw [hw4]
      exact holds_grow _ _ _ _ _ _ (by simpa using HGL.out) (holds_putRow _ _ _ _ _ _ (holds_ahead _ _ _ _ _ _ HH3.out) (by simp [HSL.out]))
    have hgr4 : w3.grownBy w4 (some g) := by rw [hw4]; exact grownBy_sorted _
    have HB4 := Lib.hid (HB3.out.grown hgr4 HB3.out.size fun k hk => by cases hk; exact HG.out)
    have HGL4 : Hid (g < w4.heap.size) := Nat.lt_of_lt_of_le HGL.out hgr4.size
    have HC := Try.slices_Compact_string g 0 cap S w4 hH4 (by rw [HSL.out]; have := HN.out; omega) (by rw [HSL.out]; exact HQ1.out)
    rw [HSL.out] at HC
    have hCl : (Lib.compact S).length ≤ p.2.length := by rw [← HSL.out, compact_dedup]; exact dedup_le _
    have HCC := Lib.hid HC
    have HCLN := Lib.hid hCl
    have HH4 := Lib.hid hH4
    obtain ⟨C, hC⟩ : ∃ C, Lib.compact S = C := ⟨_, rfl⟩
    rw [hC] at HCC HCLN
    have HCD := Lib.hid hC
    clear hw4 hgr4 hH4 HC hCl hC HSC
    go_wp2_with (fail)
    refine HCC.out.mono ?_
    rintro e w5 ⟨rfl, n5, hw5⟩
    have hH5 : Holds encStr w5 g 0 (C ++ List.replicate (p.2.length - C.length) []).toArray := by
      rw [hw5]
      exact holds_putRow _ _ _ _ _ _ (holds_ahead _ _ _ _ _ _ HH4.out) (by have := HCLN.out; have := HSL.out; simp; omega)
    have hgr5 : w4.grownBy w5 (some g) := by rw [hw5]; exact grownBy_put _
    have HB5 := Lib.hid (HB4.out.grown hgr5 HB4.out.size fun k hk => by cases hk; exact HG.out)
    have HGL5 : Hid (g < w5.heap.size) := Nat.lt_of_lt_of_le HGL4.out hgr5.size
    have HH5 := Lib.hid (holds_prefix hH5)
    have HD := Lib.hid (delStr_calls g cap C p.1 w.heap.size w5 HH5.out (HCEL.out _ HB5.out).1 (by have := HG.out; have := HZ.out; omega) HGL5.out (by have := HCLN.out; have := HN.out; omega) (Nat.le_trans HCLN.out HQ1.out))
    clear hw5 hgr5 hH5 HCC
    go_wp2_with (fail)
    refine HD.out.mono ?_
    rintro e w6 ⟨rfl, n6, hw6⟩
    have hFe : (C.filter fun x => !(txtOf x == p.1)) = (plainR p.1 p.2).map bytesOf := by rw [← HCD.out, ← HSD.out]; exact plain_bytes _ _
    rw [hFe] at hw6 ⊢
    rw [List.length_map] at hw6 ⊢
    have hFl : (plainR p.1 p.2).length ≤ C.length := by
      have := congrArg List.length hFe
      rw [List.length_map] at this
      rw [← this]
      exact List.length_filter_le _ _
    have hH6 : Holds encStr w6 g 0 ((plainR p.1 p.2).map bytesOf ++ List.replicate (C.length - (plainR p.1 p.2).length) []).toArray := by
      rw [hw6]
      exact holds_putRow _ _ _ _ _ _ (holds_ahead _ _ _ _ _ _ HH5.out) (by simp; omega)
    have hgr6 : w5.grownBy w6 (some g) := by rw [hw6]; exact grownBy_put _
    have HB6 := Lib.hid (HB5.out.grown hgr6 HB5.out.size fun k hk => by cases hk; exact HG.out)
    have HST : Hid (∀ x y, Own (w.heap.size + 2) ((w6.setCell ⟨w.heap.size + 1, 0, none⟩ x).setCell ⟨w.heap.size + 1, 1, none⟩ y) (plainR p.1 p.2) (.slice (some ⟨g, 0, none⟩) (plainR p.1 p.2).length cap)) := fun x y => by
      have h := own_of_holds (N := w.heap.size + 2) (by have := HG.out; have := HZ.out; omega) rfl hH6 (Nat.le_trans hFl (Nat.le_trans HCLN.out HQ1.out)) HQ2.out
      exact (h.stays (grown_setCell w6 ⟨w.heap.size + 1, 0, none⟩ x) (fun k hk => by cases hk; simp)).stays (grown_setCell _ ⟨w.heap.size + 1, 1, none⟩ y) (fun k hk => by cases hk; simp)
    clear hw6 hgr6 hH6 hFe hFl HD
    obtain ⟨x0, x1, x2, x3, x4⟩ := HCEL.out _ HB6.out
    go_wp2
    refine bodyPost_ret (v := .agg #[.string p.1, .slice (some ⟨g, 0, none⟩) (plainR p.1 p.2).length cap]) ?_ rfl ⟨_, rfl, HST.out _ _, HFIN.out _ _ HB6.out⟩
    obtain ⟨g0, g1⟩ := pair_cells x1 x2 (.string p.1) (.slice (some ⟨g, 0, none⟩) (plainR p.1 p.2).length cap)
    simp [results, Try.results44, go_sem, g0, g1]
end Go.Proofs.Ytjjlkckhbhgmoaa
