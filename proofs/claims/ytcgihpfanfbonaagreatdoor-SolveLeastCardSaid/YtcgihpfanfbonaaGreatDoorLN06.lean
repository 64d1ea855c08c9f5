/-
  What the reference keeps by key: a map of policies; counts of readers. label.plain: a policy with its readers rising, each once, without its owner. slices.SortFunc over policies by label.compare.
-/
import Derived.Test.YtcgihpfanfbonaaGreatDoorLN02
import Derived.Test.YtcgihpfanfbonaaGreatDoorLN05
import Derived.Test.YtcgihpfanfbonaaGreatDoorLN01
import Derived.Test.YtcgihpfanfbonaaGreatDoorShelfG
import Derived.Sort.OwnSorted
import Derived.OneCell
import Derived.Shelf.SlSortCmp.WholeK
namespace Go.Proofs.YtcgihpfanfbonaaGreatDoor
open Go.RowKit Go.Maps
set_option linter.unusedVariables false
set_option linter.unusedSimpArgs false

/-- Nothing turns but blocks of S. -/
structure GrownS (S : Nat → Prop) (w w' : World) : Prop where
  os : w'.os = w.os
  tape : w'.tape = w.tape
  output : w'.output = w.output
  size : w.heap.size ≤ w'.heap.size
  block : ∀ k, k < w.heap.size → ¬ S k → w'.heap[k]? = w.heap[k]?
section
variable {S T : Nat → Prop} {w w' w'' W : World} {l : List Txt} {v : Value}
theorem GrownS.refl (S : Nat → Prop) (w : World) : GrownS S w w := ⟨rfl, rfl, rfl, Nat.le_refl _, fun _ _ _ => rfl⟩
theorem GrownS.trans (h : GrownS S w w') (h' : GrownS S w' w'') : GrownS S w w'' :=
  ⟨h'.os.trans h.os, h'.tape.trans h.tape, h'.output.trans h.output, Nat.le_trans h.size h'.size, fun k hk hs => (h'.block k (Nat.lt_of_lt_of_le hk h.size) hs).trans (h.block k hk hs)⟩
theorem GrownS.of_below {B : Nat} (h : Below B w w') (hS : ∀ k, k < w.heap.size → ¬ S k → k < B) : GrownS S w w' :=
  ⟨h.os, h.tape, h.output, h.size, fun k hk hs => h.block k (hS k hk hs)⟩
theorem GrownS.of_grown {M : Option Nat} (h : w.grownBy w' M) (hS : ∀ k, M = some k → S k) : GrownS S w w' :=
  ⟨h.os, h.tape, h.output, h.size, fun k hk hs => h.block k hk (fun e => hs (hS k e.symm))⟩
theorem GrownS.sub (h : GrownS T w w') (hS : ∀ k, k < w.heap.size → ¬ S k → ¬ T k) : GrownS S w w' :=
  ⟨h.os, h.tape, h.output, h.size, fun k hk hs => h.block k hk (hS k hk hs)⟩
/-- Texts, whatever blocks of S hold. -/
def RobS (S : Nat → Prop) (w : World) (l : List Txt) (v : Value) : Prop := ∀ W, GrownS S w W → Strs W l v
theorem RobS.mono (h : RobS S w l v) (hg : GrownS S w w') : RobS S w' l v := fun W hW => h W (hg.trans hW)
theorem RobS.turn (h : RobS S w l v) (hS : ∀ k, k < w.heap.size → ¬ S k → ¬ T k) : RobS T w l v := fun W hW => h W (hW.sub hS)
theorem RobS.step (h : RobS S w l v) (hg : GrownS S w w') (hS : ∀ k, k < w.heap.size → ¬ S k → ¬ T k) : RobS T w' l v := fun W hW =>
  h W ⟨hW.os.trans hg.os, hW.tape.trans hg.tape, hW.output.trans hg.output, Nat.le_trans hg.size hW.size, fun k hk hs => (hW.block k (Nat.lt_of_lt_of_le hk hg.size) (hS k hk hs)).trans (hg.block k hk hs)⟩
theorem RobS.strs (h : RobS S w l v) : Strs w l v := h w (GrownS.refl _ _)
end

/-- A value is kept as it is. -/
def heldElem (v : Value) : Option (DataW Value × List MemPlace) := some (.held v, [])
abbrev zeroPol : Value := .agg #[.string ByteArray.empty, .slice none 0 0]
theorem zero_pol (w : World) : (zeroValue 37).run Tryz.prog w = .ok zeroPol w := by kernel_rfl
theorem heldElem_inv {v : Value} {d : Value} {ps : List MemPlace} (h : heldElem v = some (.held d, ps)) : v = d := by
  unfold heldElem at h
  simp at h
  exact h.1

/-- Of each of these policies the map has the key, and behind it the policy; it has no other. -/
structure Stored (S : Nat → Prop) (w : World) (D : DataW Value) (P : List Pol) : Prop where
  has : ∀ s : Txt, Maps.has D (keyS s) = decide (s ∈ P.map keyT)
  at_ : ∀ p ∈ P, ∃ v, D.atKey (keyS (keyT p)) (.held zeroPol) = .held (.agg #[.string p.1, v]) ∧ RobS S w p.2 v
section
variable {S T : Nat → Prop} {w w' : World} {D : DataW Value} {P : List Pol}
theorem Stored.start (S : Nat → Prop) (w : World) : Stored S w (.map []) [] := ⟨fun s => by simp [Maps.has], fun p hp => by cases hp⟩
theorem Stored.mono (h : Stored S w D P) (hg : GrownS S w w') : Stored S w' D P := ⟨h.has, fun p hp => by
  obtain ⟨v, h1, h2⟩ := h.at_ p hp
  exact ⟨v, h1, h2.mono hg⟩⟩
theorem Stored.turn (h : Stored S w D P) (hS : ∀ k, k < w.heap.size → ¬ S k → ¬ T k) : Stored T w D P := ⟨h.has, fun p hp => by
  obtain ⟨v, h1, h2⟩ := h.at_ p hp
  exact ⟨v, h1, h2.turn hS⟩⟩
theorem Stored.step (h : Stored S w D P) (hg : GrownS S w w') (hS : ∀ k, k < w.heap.size → ¬ S k → ¬ T k) : Stored T w' D P := ⟨h.has, fun p hp => by
  obtain ⟨v, h1, h2⟩ := h.at_ p hp
  exact ⟨v, h1, h2.step hg hS⟩⟩
theorem Stored.put (h : Stored S w D P) (hm : IsMap D) {p : Pol} {v : Value} (inj : ∀ x ∈ P, keyT x = keyT p → x = p) (hv : RobS S w p.2 v) :
    Stored S w (D.put (keyS (keyT p)) (.held (.agg #[.string p.1, v]))) (if p ∈ P then P else P ++ [p]) := by
  have hmem : ∀ x : Pol, x ∈ (if p ∈ P then P else P ++ [p]) ↔ x = p ∨ x ∈ P := fun x => by
    split
    · rename_i hp
      constructor
      · exact .inr
      · rintro (rfl | h)
        · exact hp
        · exact h
    · rw [List.mem_append, List.mem_singleton, or_comm]
  constructor
  · intro s
    by_cases e : s = keyT p
    · subst e
      rw [has_put_same hm (by trivial)]
      symm
      rw [decide_eq_true_eq, List.mem_map]
      exact ⟨p, (hmem p).2 (.inl rfl), rfl⟩
    · rw [has_put_other (fun h => e (keyS_inj h)), h.has s, decide_eq_decide, List.mem_map, List.mem_map]
      constructor
      · rintro ⟨x, hx, rfl⟩; exact ⟨x, (hmem x).2 (.inr hx), rfl⟩
      · rintro ⟨x, hx, rfl⟩
        rcases (hmem x).1 hx with rfl | hx
        · exact absurd rfl e
        · exact ⟨x, hx, rfl⟩
  · intro x hx
    by_cases e : x = p
    · subst e
      exact ⟨v, atKey_put_same hm (by trivial) _ _, hv⟩
    · have hxP := ((hmem x).1 hx).resolve_left e
      rw [atKey_put_other (fun h => e (inj x hxP (keyS_inj h)))]
      exact h.at_ x hxP
/-- What is looked up at a policy's key. -/
theorem Stored.look (h : Stored S w D P) {M n : Nat} (ho : w.ownsMap Tryz.prog 9 heldElem M n D) {p : Pol} (hp : p ∈ P) (hk : okTxt (keyT p)) :
    ∃ v, (Instr.lookup 79 (.map (some M)) (.string (keyT p)) false).run Tryz.prog w = .ok (.agg #[.string p.1, v]) w ∧ RobS S w p.2 v := by
  obtain ⟨v, h1, h2⟩ := h.at_ p hp
  obtain ⟨u, ps, hrun, hu⟩ := ho.lookup (t := 79) (e := 37) law_str Tryz.underlying79 (zero_pol w) (zd := .held zeroPol) (zp := []) rfl (key_str hk)
  rw [h1] at hu
  have := heldElem_inv hu
  subst this
  exact ⟨v, hrun, h2⟩
/-- .. with the answer whether it is there. -/
theorem Stored.look_ok (h : Stored S w D P) {M n : Nat} (ho : w.ownsMap Tryz.prog 9 heldElem M n D) {p : Pol} (inj : ∀ x ∈ P, keyT x = keyT p → x = p) (hk : okTxt (keyT p)) :
    ∃ s pp n c, (Instr.lookup 79 (.map (some M)) (.string (keyT p)) true).run Tryz.prog w = .ok (.tuple #[.agg #[.string s, .slice pp n c], .bool (decide (p ∈ P))]) w := by
  obtain ⟨u, ps, hrun, hu⟩ := ho.look_ok (t := 79) (e := 37) law_str Tryz.underlying79 (zero_pol w) (zd := .held zeroPol) (zp := []) rfl (key_str hk)
  have e : Maps.has D (keyS (keyT p)) = decide (p ∈ P) := by
    rw [h.has, decide_eq_decide, List.mem_map]
    constructor
    · rintro ⟨x, hx, e⟩; rw [← inj x hx e]; exact hx
    · intro hp; exact ⟨p, hp, rfl⟩
  rw [e] at hrun
  by_cases hp : p ∈ P
  · obtain ⟨v, h1, h2⟩ := h.at_ p hp
    rw [h1] at hu
    have := heldElem_inv hu
    subst this
    obtain ⟨pp, c, hv, _⟩ := h2.strs
    rw [hv] at hrun
    exact ⟨_, _, _, _, hrun⟩
  · have hn : Maps.has D (keyS (keyT p)) = false := by rw [e, decide_eq_false hp]
    rw [atKey_of_not_has hn] at hu
    have := heldElem_inv hu
    subst this
    exact ⟨_, _, _, _, hrun⟩
end

theorem owns_belowV {w w' : World} {M n : Nat} {D : DataW Value} (h : w.ownsMap Tryz.prog 9 heldElem M n D) {B : Nat} (hb : Below w.heap.size w w') : w'.ownsMap Tryz.prog 9 heldElem M n D :=
  h.kept (row := none) ⟨hb.os, hb.tape, hb.output, hb.size, fun q hq _ => hb.block q hq⟩ (by simp)

theorem owns_belowU {w w' : World} {M n : Nat} {D : DataW Unit} (h : w.ownsMap Tryz.prog 9 (plainElem Tryz.prog 3) M n D) (hb : Below w.heap.size w w') : w'.ownsMap Tryz.prog 9 (plainElem Tryz.prog 3) M n D :=
  h.kept (row := none) ⟨hb.os, hb.tape, hb.output, hb.size, fun q hq _ => hb.block q hq⟩ (by simp)

/-- How often each name came. -/
def CountD (D : DataW Unit) (l : List Txt) : Prop := ∀ x, D.atKey (keyS x) (.lit (.int .i64 0)) = .lit (.int .i64 (l.count x : Nat))
theorem CountD.start : CountD (.map []) [] := fun x => rfl
theorem CountD.add {D : DataW Unit} {l : List Txt} {s : Txt} (h : CountD D l) (hm : IsMap D) : CountD (D.put (keyS s) (.lit (.int .i64 ((l.count s : Nat) + 1)))) (l ++ [s]) := fun x => by
  by_cases e : x = s
  · subst e
    rw [atKey_put_same hm (by trivial)]
    simp
  · rw [atKey_put_other (fun h => e (keyS_inj h)), h x, List.count_append]
    have : List.count x [s] = 0 := List.count_eq_zero.2 (by simpa using e)
    rw [this]
    rfl
theorem CountD.at {D : DataW Unit} {l : List Txt} (h : CountD D l) {x : Txt} {c : Int} (hat : D.atKey (keyS x) (.lit (.int .i64 0)) = .lit (.int .i64 c)) : c = (l.count x : Nat) := by
  rw [h x] at hat
  simp at hat
  exact hat.symm

/-- The document's readers so far. -/
def rdTo (o : Txt) (l : List Txt) (k : Nat) : List Txt := readersF o (l.take k)
theorem rdTo_zero (o : Txt) (l : List Txt) : rdTo o l 0 = [] := by unfold rdTo readersF; rw [List.take_zero]; rfl
theorem rdTo_all (o : Txt) (l : List Txt) : rdTo o l l.length = readersF o l := by unfold rdTo; rw [List.take_length]
theorem rdTo_hit {o : Txt} {l : List Txt} {k : Nat} (hk : k < l.length) (h1 : (l.take k).count l[k] = 0) (h2 : l[k] ≠ o) : rdTo o l (k + 1) = rdTo o l k ++ [l[k]] := by
  have hm : l[k] ∉ firstsTo (l.take k) := by rw [mem_firsts]; exact List.count_eq_zero.1 h1
  unfold rdTo readersF
  rw [List.take_succ_eq_append_getElem hk, firsts_snoc, if_neg hm, List.filter_append]
  simp [h2]
theorem rdTo_seen {o : Txt} {l : List Txt} {k : Nat} (hk : k < l.length) (h1 : (l.take k).count l[k] ≠ 0) : rdTo o l (k + 1) = rdTo o l k := by
  have hm : l[k] ∈ firstsTo (l.take k) := by rw [mem_firsts]; exact Classical.byContradiction fun h => h1 (List.count_eq_zero.2 h)
  unfold rdTo readersF
  rw [List.take_succ_eq_append_getElem hk, firsts_snoc, if_pos hm]
theorem rdTo_own {o : Txt} {l : List Txt} {k : Nat} (hk : k < l.length) (h2 : l[k] = o) : rdTo o l (k + 1) = rdTo o l k := by
  unfold rdTo readersF
  rw [List.take_succ_eq_append_getElem hk, firsts_snoc]
  split
  · rfl
  · rw [List.filter_append]; simp [h2]
theorem rdTo_le (o : Txt) (l : List Txt) (k : Nat) : (rdTo o l k).length ≤ k := by
  unfold rdTo readersF
  exact Nat.le_trans (List.length_filter_le _ _) (Nat.le_trans (firsts_le _) (List.length_take_le _ _))
/-- The policies that were met first, so far. -/
def polTo (x : Lab) (k : Nat) : Lab := firstsTo ((x.take k).map plainP)
theorem polTo_succ {x : Lab} {k : Nat} (hk : k < x.length) : polTo x (k + 1) = if plainP x[k] ∈ polTo x k then polTo x k else polTo x k ++ [plainP x[k]] := by
  unfold polTo
  rw [List.take_succ_eq_append_getElem hk, List.map_append, List.map_cons, List.map_nil, firsts_snoc]
  by_cases h : plainP x[k] ∈ firstsTo ((x.take k).map plainP)
  · rw [if_pos h, if_pos h]
  · rw [if_neg h, if_neg h]
theorem polTo_at {x : Lab} {k : Nat} {p : Pol} (h : x[k]? = some p) : polTo x (k + 1) = if plainP p ∈ polTo x k then polTo x k else polTo x k ++ [plainP p] := by
  obtain ⟨hk, rfl⟩ := List.getElem?_eq_some_iff.1 h
  exact polTo_succ hk
theorem polTo_le (x : Lab) (k : Nat) : (polTo x k).length ≤ k := by
  unfold polTo
  refine Nat.le_trans (firsts_le _) ?_
  rw [List.length_map]; exact List.length_take_le _ _
theorem mem_polTo {x : Lab} {k : Nat} {p : Pol} (h : p ∈ polTo x k) : ∃ y ∈ x, plainP y = p := by
  unfold polTo at h
  rw [mem_firsts, List.mem_map] at h
  obtain ⟨y, hy, e⟩ := h
  exact ⟨y, List.mem_of_mem_take hy, e⟩
theorem polTo_inj {x : Lab} (hx : FullL x) {k : Nat} {y : Pol} (hy : y ∈ x) : ∀ p ∈ polTo x k, keyT p = keyT (plainP y) → p = plainP y := fun p hp e => by
  obtain ⟨z, hz, rfl⟩ := mem_polTo hp
  have h1 := full_plain hx _ (List.mem_map.2 ⟨z, hz, rfl⟩)
  have h2 := full_plain hx _ (List.mem_map.2 ⟨y, hy, rfl⟩)
  exact keyT_inj h1.1 h1.2 h2.1 h2.2 e
end Go.Proofs.YtcgihpfanfbonaaGreatDoor
namespace Go.Proofs.YtcgihpfanfbonaaGreatDoor
open Go.RowKit Go.Sort
set_option linter.unusedVariables false
set_option linter.unusedSimpArgs false

theorem encStr_txt (s : Txt) : encStr (bytesOf s) = .string s := by
  show Value.string ⟨(bytesOf s).toArray⟩ = _
  rw [show (⟨(bytesOf s).toArray⟩ : ByteArray) = txtOf (bytesOf s) from rfl, txtOf_bytes]
theorem enc_map (l : List Txt) : (l.map bytesOf).map encStr = l.map Value.string := by
  rw [List.map_map]
  exact List.map_congr_left fun x _ => encStr_txt x
theorem bytes_inj' {a b : Txt} (h : bytesOf a = bytesOf b) : a = b := txt_ext h
theorem dedupFrom_map {α β : Type} [DecidableEq α] [DecidableEq β] {f : α → β} (hf : ∀ a b, f a = f b → a = b) (p : α) (l : List α) : dedupFrom (f p) (l.map f) = (dedupFrom p l).map f := by
  induction l generalizing p with
  | nil => rfl
  | cons x l ih =>
    rw [List.map_cons]
    unfold dedupFrom
    by_cases e : x = p
    · rw [if_pos e, if_pos (by rw [e]), ih]
    · rw [if_neg e, if_neg (fun h => e (hf _ _ h)), ih, List.map_cons]
theorem dedup_map {α β : Type} [DecidableEq α] [DecidableEq β] {f : α → β} (hf : ∀ a b, f a = f b → a = b) (l : List α) : dedup (l.map f) = (dedup l).map f := by
  cases l with
  | nil => rfl
  | cons x l =>
    show f x :: dedupFrom (f x) (l.map f) = (x :: dedupFrom x l).map f
    rw [dedupFrom_map hf]; rfl
theorem sort_bytes (l : List Txt) : (l.map bytesOf).mergeSort (fun x y => decide (x ≤ y)) = (srt cmpT l).map bytesOf := by
  unfold srt
  rw [List.map_mergeSort (s := fun x y => decide (x ≤ y))]
  intro a _ b _
  rw [decide_eq_decide]
  have h1 := compareBytes_lt (bytesOf b) (bytesOf a)
  have h2 := cmpT_tot.anti b a
  have e : Lib.compareBytes (bytesOf b) (bytesOf a) = cmpT b a := rfl
  rw [e] at h1
  constructor
  · intro h h3
    have := h1.2 h3
    omega
  · intro h
    have : ¬ cmpT b a < 0 := fun h3 => h (h1.1 h3)
    omega
/-- The texts that are left of some bytes' lists, sorted, each once. -/
theorem plain_bytes (o : Txt) (l : List Txt) : ((Lib.compact ((l.map bytesOf).mergeSort fun x y => decide (x ≤ y))).filter fun x => !(txtOf x == o)) = (plainR o l).map bytesOf := by
  rw [compact_dedup, sort_bytes, dedup_map (fun _ _ h => bytes_inj' h), List.filter_map]
  unfold plainR
  congr 1
theorem plainR_le (o : Txt) (l : List Txt) : (plainR o l).length ≤ (dedup (srt cmpT l)).length := List.length_filter_le _ _
theorem dedup_le {α : Type} [DecidableEq α] (l : List α) : (dedup l).length ≤ l.length := by
  have : ∀ (p : α) (l : List α), (dedupFrom p l).length ≤ l.length := by
    intro p l
    induction l generalizing p with
    | nil => exact Nat.le_refl _
    | cons x l ih =>
      unfold dedupFrom
      split
      · have := ih p; simp; omega
      · have := ih x; simp; omega
  cases l with
  | nil => exact Nat.le_refl _
  | cons x l => have := this x l; show (x :: dedupFrom x l).length ≤ _; simp; exact this

theorem plainF_calls (x o : Txt) (g : Nat) (W : World) (h : W.cell? ⟨g, 0, none⟩ = some (.string o)) :
    Calls Tryz.prog 92 #[.string x, .pointer (some ⟨g, 0, none⟩)] W fun e w' => e = .returned (.bool (x == o)) ∧ W = w' := by
  by_cases hx : x = o
  · have hx' : (x.toList == o.toList) = true := bytes_eq.2 hx
    have HE : Hid ((x == o) = true) := by unfold Hid; simpa using hx
    clear hx
    go_enter Tryz.func92, Tryz.ntmps92
    go_wp2
    go_ret
    exact ⟨by rw [HE.out]; rfl, rfl⟩
  · have hx' : (x.toList == o.toList) = false := text_ne hx
    have HE : Hid ((x == o) = false) := by unfold Hid; simpa using hx
    clear hx
    go_enter Tryz.func92, Tryz.ntmps92
    go_wp2
    go_ret
    exact ⟨by rw [HE.out]; rfl, rfl⟩

theorem delStr_calls (g cap : Nat) (ss : List (List UInt8)) (o : Txt) (box : Nat) (w : World) (hH : Holds encStr w g 0 ss.toArray) (hb : w.cell? ⟨box, 0, none⟩ = some (.string o)) (hne : box ≠ g) (hlt : g < w.heap.size) (hsz : ss.length ≤ 9223372036854775807) (hcap : ss.length ≤ cap) :
    Calls Tryz.prog 90 #[.slice (some ⟨g, 0, none⟩) ss.length cap, .func (.func 92) #[] #[.pointer (some ⟨box, 0, none⟩)]] w fun e w' => e = .returned (.slice (some ⟨g, 0, none⟩) (ss.filter fun x => !(txtOf x == o)).length cap) ∧
      ∃ q, w' = putRow encStr (Sort.ahead w q) g 0 ((ss.filter fun x => !(txtOf x == o)) ++ List.replicate (ss.length - (ss.filter fun x => !(txtOf x == o)).length) []).toArray := by
  have eg : ∀ args w, (callFunc 92 args).run Tryz.prog w = .ok (.enter 92 args) w := enters_at Tryz.func92 (by kernel_rfl) rfl
  have hbl : box < w.heap.size := cell_lt hb
  have hp : PredAt Tryz.prog 92 #[.pointer (some ⟨box, 0, none⟩)] encStr (fun x => txtOf x == o) w := fun W x hW =>
    (plainF_calls (txtOf x) o box W ((hW.cell (p := ⟨box, 0, none⟩) hbl).trans hb)).mono fun e w' ⟨he, hw⟩ => ⟨he, 0, hw.symm⟩
  have hpo : PredOver Tryz.prog 92 #[.pointer (some ⟨box, 0, none⟩)] encStr (fun x => txtOf x == o) g 0 ss.toArray.size w := fun n os dk x _ =>
    (plainF_calls (txtOf x) o box _ (by
      unfold sortWorld
      rw [cell?_grow _ _ _ (by simpa using hbl), cell?_putRow_other _ _ _ _ _ _ (.inl hne)]
      exact hb)).mono fun e w' ⟨he, hw⟩ => ⟨he, 0, hw.symm⟩
  have h := AnyE.slices_DeleteFunc Tryz.delStr encStr (fun _ => rfl) (fun x => txtOf x == o) 92 #[.pointer (some ⟨box, 0, none⟩)] eg [] (fun w => Tryz.zeroValue9 w) g 0 cap ss.toArray w hp hpo hH (by simpa using hsz) (by simpa using hcap)
  change Calls Tryz.prog 90 _ _ _ at h
  simpa using h

/-- slices.IndexFunc at no text. -/
theorem idxNil_calls (a : Option Addr) (c fn : Nat) (lb : Array Value) (w : World) :
    Calls Tryz.prog 51 #[.slice a 0 c, .func (.func fn) #[] lb] w fun e w' => e = .returned (.int .i64 (-1)) ∧ w' = w := by
  go_enter Tryz.func51, Tryz.ntmps51
  go_wp2
  go_loop [5, 8] (fun _ i => i = .int .i64 0) (fun _ _ => 0)
  case atStart => rfl
  case round =>
    subst hrel
    go_wp2
    go_ret
    exact ⟨rfl, rfl⟩
/-- slices.DeleteFunc at no text. -/
theorem delNil_calls (a : Option Addr) (c fn : Nat) (lb : Array Value) (w : World) :
    Calls Tryz.prog 90 #[.slice a 0 c, .func (.func fn) #[] lb] w fun e w' => e = .returned (.slice a 0 c) ∧ w' = w := by
  go_enter Tryz.func90, Tryz.ntmps90
  go_wp2_with (fail)
  refine (idxNil_calls _ _ _ _ _).mono ?_
  rintro e w1 ⟨rfl, rfl⟩
  go_wp2
  go_ret
  exact ⟨rfl, rfl⟩
theorem grown_setCell (w : World) (a : Addr) (u : Value) : w.grownBy (w.setCell a u) (some a.block) :=
  ⟨rfl, rfl, rfl, by simp [World.setCell], fun k _ hne => Below.heap_setCell _ _ _ _ (fun e => hne (by rw [e]))⟩
theorem pair_cells {w : World} {fb : Nat} {x y : Value} (h0 : w.cell? ⟨fb, 0, none⟩ = some x) (h1 : w.cell? ⟨fb, 1, none⟩ = some y) (c a : Value) :
    ((w.setCell ⟨fb, 0, none⟩ c).setCell ⟨fb, 1, none⟩ a).cell? ⟨fb, 0, none⟩ = some c ∧ ((w.setCell ⟨fb, 0, none⟩ c).setCell ⟨fb, 1, none⟩ a).cell? ⟨fb, 1, none⟩ = some a :=
  ⟨(World.cell?_setCell_other _ _ _ _ (by simp)).trans (World.cell?_setCell_same _ _ _ h0), World.cell?_setCell_same _ _ _ ((World.cell?_setCell_other _ _ _ _ (by simp)).trans h1)⟩
/-- Texts that lie from a block on. -/
def Own (N : Nat) (w : World) (l : List Txt) (v : Value) : Prop := ∃ p c, v = .slice p l.length c ∧ l.length ≤ c ∧ c ≤ maxLen ∧
  (l = [] ∨ ∃ b o, N ≤ b ∧ p = some ⟨b, o, none⟩ ∧ ∀ (i : Nat) (h : i < l.length), w.cell? ⟨b, o + i, none⟩ = some (.string l[i]))
theorem Own.strs {N : Nat} {w : World} {l : List Txt} {v : Value} (h : Own N w l v) : Strs w l v := by
  obtain ⟨p, c, e, h1, h2, h3⟩ := h
  refine ⟨p, c, e, h1, h2, ?_⟩
  rcases h3 with rfl | ⟨b, o, _, hp, h3⟩
  · exact .inl rfl
  · refine .inr ⟨b, o, hp, fun i hi => ⟨[.string l[i]], rfl, rfl, fun j x hx => ?_⟩⟩
    match j, hx with
    | 0, hx =>
      simp at hx
      subst hx
      first | exact h3 i hi | (simp; done) | (simp; exact h3 i hi)
/-- They stay where one block ahead of them is written. -/
theorem Own.stays {N : Nat} {w w' : World} {l : List Txt} {v : Value} {M : Option Nat} (h : Own N w l v) (hg : w.grownBy w' M) (hM : ∀ k, M = some k → k < N) : Own N w' l v := by
  obtain ⟨p, c, e, h1, h2, h3⟩ := h
  refine ⟨p, c, e, h1, h2, ?_⟩
  rcases h3 with rfl | ⟨b, o, hb, hp, h3⟩
  · exact .inl rfl
  · refine .inr ⟨b, o, hb, hp, fun i hi => hg.cell (h3 i hi) fun e => ?_⟩
    have e' : some b = M := e
    have := hM b e'.symm
    omega
theorem own_of_holds {w : World} {g cap N : Nat} {F : List (List UInt8)} {pad : List (List UInt8)} {l : List Txt} (hN : N ≤ g) (hF : F = l.map bytesOf) (h : Holds encStr w g 0 (F ++ pad).toArray) (h1 : l.length ≤ cap) (h2 : cap ≤ maxLen) : Own N w l (.slice (some ⟨g, 0, none⟩) l.length cap) := by
  subst hF
  refine ⟨_, _, rfl, h1, h2, .inr ⟨g, 0, hN, rfl, fun i hi => ?_⟩⟩
  have h3 := (h i (by simp; omega)).1
  have e : (l.map bytesOf ++ pad).toArray[i]! = bytesOf l[i] := by
    rw [getElem!_pos _ i (by simp; omega)]
    simp [List.getElem_append_left, hi]
  rw [e, encStr_txt] at h3
  exact h3
theorem holds_prefix {w : World} {g : Nat} {F pad : List (List UInt8)} (h : Holds encStr w g 0 (F ++ pad).toArray) : Holds encStr w g 0 F.toArray := fun j hj => by
  have hj' : j < F.length := by simpa using hj
  have h3 := h j (by simp; omega)
  have e : (F ++ pad).toArray[j]! = F.toArray[j]! := by
    rw [getElem!_pos _ j (by simp; omega), getElem!_pos _ j hj]
    simp [List.getElem_append_left, hj']
  rw [e] at h3
  exact h3
theorem grownBy_put {w : World} {g n : Nat} (d : Array (List UInt8)) : w.grownBy (putRow encStr (Sort.ahead w n) g 0 d) (some g) := by
  have := grownBy_sorted (w := w) (g := g) (n := n) (os := #[]) d
  rwa [grow_empty] at this

theorem cloneNil_calls (a : Option Addr) (c : Nat) (W : World) : Calls Tryz.prog 89 #[.slice a 0 c] W fun e w' => ∃ a' c', e = .returned (.slice a' 0 c') ∧ c' ≤ maxLen ∧ Below W.heap.size W w' := by
  cases a with
  | none =>
    refine (Tryz.slices_Clone_string_nil 0 c W).mono ?_
    rintro e w' ⟨he, hw⟩
    exact ⟨none, 0, he, by unfold maxLen; omega, by rw [hw]; exact Below.refl _ _⟩
  | some a =>
    refine (Tryz.slices_Clone_string_zero a c W).mono ?_
    rintro e w' ⟨v', he, hown, hnn, hb⟩
    rcases hown.2 with ⟨hnil, _⟩ | ⟨g, cap, cur, rfl, _, _, _, q2, _, _⟩
    · exact absurd hnil hnn
    · exact ⟨_, _, he, q2, hb⟩

set_option maxHeartbeats 2000000 in
set_option maxRecDepth 100000 in
theorem plain_calls (p : Pol) (vp : Value) (w : World) (hp : Strs w p.2 vp) (hn : p.2.length ≤ 1048576) :
    Calls Tryz.prog 61 #[.agg #[.string p.1, vp]] w fun e w' => ∃ v', e = .returned (.agg #[.string p.1, v']) ∧ Own (w.heap.size + 2) w' (plainR p.1 p.2) v' ∧ Below w.heap.size w w' := by
  obtain ⟨b, o, c, a, rfl, hlc, hc, ha, hcells⟩ := hp.cells
  obtain ⟨W2, eW⟩ : ∃ W2, (w.alloc (.cells #[.string p.1, .slice a p.2.length c] 37)).alloc (.cells #[.string ⟨#[]⟩, .slice none 0 0] 37) = W2 := ⟨_, rfl⟩
  obtain ⟨z2, hW, m1, m2⟩ := boxes2 eW
  have h10 := m1 0
  have h11 := m1 1
  have h20 := m2 0
  have h21 := m2 1
  simp only [List.getElem?_toArray, List.getElem?_cons_zero, List.getElem?_cons_succ] at h10 h11 h20 h21
  have f20 : W2.frozen? ⟨w.heap.size + 1, 0, none⟩ = false := by rw [← eW]; exact World.frozen?_alloc_at _ _ _ _ (by simp)
  have f21 : W2.frozen? ⟨w.heap.size + 1, 1, none⟩ = false := by rw [← eW]; exact World.frozen?_alloc_at _ _ _ _ (by simp)
  have hz : W2.heap.size = w.heap.size + 2 := z2
  have FIN : ∀ (w6 : World) (v6 : Value), Below W2.heap.size W2 w6 → Below w.heap.size w ((w6.setCell ⟨w.heap.size + 1, 0, none⟩ (.string p.1)).setCell ⟨w.heap.size + 1, 1, none⟩ v6) := fun w6 v6 h =>
    ((hW.trans (h.mono hW.size)).setCell (by simp) _).setCell (by simp) _
  have CEL : ∀ (w6 : World), Below W2.heap.size W2 w6 → w6.cell? ⟨w.heap.size, 0, none⟩ = some (.string p.1) ∧ w6.cell? ⟨w.heap.size + 1, 0, none⟩ = some (.string ⟨#[]⟩) ∧ w6.cell? ⟨w.heap.size + 1, 1, none⟩ = some (.slice none 0 0) ∧
      w6.frozen? ⟨w.heap.size + 1, 0, none⟩ = false ∧ w6.frozen? ⟨w.heap.size + 1, 1, none⟩ = false := fun w6 h =>
    ⟨(h.cell (p := ⟨w.heap.size, 0, none⟩) (by rw [hz]; simp)).trans h10, (h.cell (p := ⟨w.heap.size + 1, 0, none⟩) (by rw [hz]; simp)).trans h20, (h.cell (p := ⟨w.heap.size + 1, 1, none⟩) (by rw [hz]; simp)).trans h21,
      (h.frozen (p := ⟨w.heap.size + 1, 0, none⟩) (by rw [hz]; simp)).trans f20, (h.frozen (p := ⟨w.heap.size + 1, 1, none⟩) (by rw [hz]; simp)).trans f21⟩
  have HFIN := Lib.hid FIN
  have HCEL := Lib.hid CEL
  clear FIN CEL
  by_cases h0 : p.2.length = 0
  · have hnil : p.2 = [] := List.length_eq_zero_iff.1 h0
    have HPL : Hid (plainR p.1 p.2 = []) := by unfold Hid; rw [hnil]; simp [plainR, srt, dedup]
    have HCL := Lib.hid (cloneNil_calls a c)
    rw [h0] at eW h11 ⊢
    have HW := Lib.hid hW
    have H0 := Lib.hid h0
    clear hW z2 m1 m2 hcells ha h20 h21 f20 f21 h10 hz h0 hnil hp hlc
    go_enter Tryz.func61, Tryz.ntmps61
    go_wp2_with (fail)
    refine (HCL.out _).mono ?_
    rintro e w3 ⟨a3, c3, rfl, hc3, hb3⟩
    have HB3 := Lib.hid hb3
    have HC3 := Lib.hid hc3
    clear hb3 hc3
    go_wp2_with (fail)
    refine (Tryz.slices_Sort_string_none _ _ _).mono ?_
    rintro e w4 ⟨rfl, rfl⟩
    go_wp2_with (fail)
    refine (Tryz.slices_Compact_string_empty _ _ _).mono ?_
    rintro e w4 ⟨rfl, rfl⟩
    go_wp2_with (fail)
    refine (delNil_calls _ _ _ _ _).mono ?_
    rintro e w4 ⟨rfl, rfl⟩
    obtain ⟨x0, x1, x2, x3, x4⟩ := HCEL.out _ HB3.out
    go_wp2
    refine bodyPost_ret (v := .agg #[.string p.1, .slice a3 0 c3]) ?_ rfl ⟨_, rfl, ?_, HFIN.out _ _ HB3.out⟩
    · obtain ⟨g0, g1⟩ := pair_cells x1 x2 (.string p.1) (.slice a3 0 c3)
      simp [results, Tryz.results61, go_sem, g0, g1]
    · rw [HPL.out]
      exact ⟨a3, c3, rfl, Nat.zero_le _, HC3.out, .inl rfl⟩
  · obtain rfl := ha (by omega)
    obtain ⟨t0, hi, hz0, hz1, hz2⟩ := info_parts Tryz.info_string
    have HCL := Lib.hid (Tryz.slices_Clone_string b o p.2.length c p.2 W2 (Nat.le_refl _) (by omega) fun j hj => by
      have := hcells j hj
      rw [show p.2.getD j ByteArray.empty = p.2[j] by simp [List.getD, hj]]
      exact (hW.cell (cell_lt this)).trans this)
    rw [List.take_length] at HCL
    have HW := Lib.hid hW
    have HZ := Lib.hid hz
    have HN := Lib.hid hn
    clear hW z2 m1 m2 hcells ha h20 h21 f20 f21 h10 hz hn
    go_enter Tryz.func61, Tryz.ntmps61
    go_wp2_with (fail)
    refine HCL.out.mono ?_
    rintro e w3 ⟨v3, rfl, hown, hnn, hb3⟩
    rcases hown.2 with ⟨hnil, _⟩ | ⟨g, cap, cur, rfl, hbase, hblk, q1, q2, q3, q4⟩
    · exact absurd hnil hnn
    have HB3 := Lib.hid hb3
    have HG := Lib.hid hbase
    have HQ1 := Lib.hid q1
    have HQ2 := Lib.hid q2
    have hH3 : Holds encStr w3 g 0 (p.2.map bytesOf).toArray := holds_of_block hblk (by rw [enc_map, List.length_map]; simpa using q4)
    have hg3 : g < w3.heap.size := (Array.getElem?_eq_some_iff.1 hblk).1
    have HGL := Lib.hid hg3
    have HS := Tryz.slices_Sort_string g 0 cap (p.2.map bytesOf) w3 hH3 hg3 (by rw [List.length_map]; have := HN.out; omega)
    rw [List.length_map] at HS
    have hSl : ((p.2.map bytesOf).mergeSort fun x y => decide (x ≤ y)).length = p.2.length := by rw [List.length_mergeSort, List.length_map]
    have HSL := Lib.hid hSl
    have HH3 := Lib.hid hH3
    obtain ⟨S, hS⟩ : ∃ S, ((p.2.map bytesOf).mergeSort fun x y => decide (x ≤ y)) = S := ⟨_, rfl⟩
    rw [hS] at HS HSL
    have HSD := Lib.hid hS
    have HSC := Lib.hid HS
    clear hown hnn hb3 hbase hblk q1 q2 q3 q4 hH3 hg3 HS hSl hS HCL
    go_wp2_with (fail)
    refine HSC.out.mono ?_
    rintro e w4 ⟨rfl, n4, os4, hw4⟩
    have hH4 : Holds encStr w4 g 0 S.toArray := by
      rw [hw4]
      exact holds_grow _ _ _ _ _ _ (by simpa using HGL.out) (holds_putRow _ _ _ _ _ _ (holds_ahead _ _ _ _ _ _ HH3.out) (by simp [HSL.out]))
    have hgr4 : w3.grownBy w4 (some g) := by rw [hw4]; exact grownBy_sorted _
    have HB4 := Lib.hid (HB3.out.grown hgr4 HB3.out.size fun k hk => by cases hk; exact HG.out)
    have HGL4 : Hid (g < w4.heap.size) := Nat.lt_of_lt_of_le HGL.out hgr4.size
    have HC := Tryz.slices_Compact_string g 0 cap S w4 hH4 (by rw [HSL.out]; have := HN.out; omega) (by rw [HSL.out]; exact HQ1.out)
    rw [HSL.out] at HC
    have hCl : (Lib.compact S).length ≤ p.2.length := by rw [← HSL.out, compact_dedup]; exact dedup_le _
    have HCC := Lib.hid HC
    have HCLN := Lib.hid hCl
    have HH4 := Lib.hid hH4
    obtain ⟨C, hC⟩ : ∃ C, Lib.compact S = C := ⟨_, rfl⟩
    rw [hC] at HCC HCLN
    have HCD := Lib.hid hC
    clear hw4 hgr4 hH4 HC hCl hC HSC
    go_wp2_with (fail)
    refine HCC.out.mono ?_
    rintro e w5 ⟨rfl, n5, hw5⟩
    have hH5 : Holds encStr w5 g 0 (C ++ List.replicate (p.2.length - C.length) []).toArray := by
      rw [hw5]
      exact holds_putRow _ _ _ _ _ _ (holds_ahead _ _ _ _ _ _ HH4.out) (by have := HCLN.out; have := HSL.out; simp; omega)
    have hgr5 : w4.grownBy w5 (some g) := by rw [hw5]; exact grownBy_put _
    have HB5 := Lib.hid (HB4.out.grown hgr5 HB4.out.size fun k hk => by cases hk; exact HG.out)
    have HGL5 : Hid (g < w5.heap.size) := Nat.lt_of_lt_of_le HGL4.out hgr5.size
    have HH5 := Lib.hid (holds_prefix hH5)
    have HD := Lib.hid (delStr_calls g cap C p.1 w.heap.size w5 HH5.out (HCEL.out _ HB5.out).1 (by have := HG.out; have := HZ.out; omega) HGL5.out (by have := HCLN.out; have := HN.out; omega) (Nat.le_trans HCLN.out HQ1.out))
    clear hw5 hgr5 hH5 HCC
    go_wp2_with (fail)
    refine HD.out.mono ?_
    rintro e w6 ⟨rfl, n6, hw6⟩
    have hFe : (C.filter fun x => !(txtOf x == p.1)) = (plainR p.1 p.2).map bytesOf := by rw [← HCD.out, ← HSD.out]; exact plain_bytes _ _
    rw [hFe] at hw6 ⊢
    rw [List.length_map] at hw6 ⊢
    have hFl : (plainR p.1 p.2).length ≤ C.length := by
      have := congrArg List.length hFe
      rw [List.length_map] at this
      rw [← this]
      exact List.length_filter_le _ _
    have hH6 : Holds encStr w6 g 0 ((plainR p.1 p.2).map bytesOf ++ List.replicate (C.length - (plainR p.1 p.2).length) []).toArray := by
      rw [hw6]
      exact holds_putRow _ _ _ _ _ _ (holds_ahead _ _ _ _ _ _ HH5.out) (by simp; omega)
    have hgr6 : w5.grownBy w6 (some g) := by rw [hw6]; exact grownBy_put _
    have HB6 := Lib.hid (HB5.out.grown hgr6 HB5.out.size fun k hk => by cases hk; exact HG.out)
    have HST : Hid (∀ x y, Own (w.heap.size + 2) ((w6.setCell ⟨w.heap.size + 1, 0, none⟩ x).setCell ⟨w.heap.size + 1, 1, none⟩ y) (plainR p.1 p.2) (.slice (some ⟨g, 0, none⟩) (plainR p.1 p.2).length cap)) := fun x y => by
      have h := own_of_holds (N := w.heap.size + 2) (by have := HG.out; have := HZ.out; omega) rfl hH6 (Nat.le_trans hFl (Nat.le_trans HCLN.out HQ1.out)) HQ2.out
      exact (h.stays (grown_setCell w6 ⟨w.heap.size + 1, 0, none⟩ x) (fun k hk => by cases hk; simp)).stays (grown_setCell _ ⟨w.heap.size + 1, 1, none⟩ y) (fun k hk => by cases hk; simp)
    clear hw6 hgr6 hH6 hFe hFl HD
    obtain ⟨x0, x1, x2, x3, x4⟩ := HCEL.out _ HB6.out
    go_wp2
    refine bodyPost_ret (v := .agg #[.string p.1, .slice (some ⟨g, 0, none⟩) (plainR p.1 p.2).length cap]) ?_ rfl ⟨_, rfl, HST.out _ _, HFIN.out _ _ HB6.out⟩
    obtain ⟨g0, g1⟩ := pair_cells x1 x2 (.string p.1) (.slice (some ⟨g, 0, none⟩) (plainR p.1 p.2).length cap)
    simp [results, Tryz.results61, go_sem, g0, g1]
end Go.Proofs.YtcgihpfanfbonaaGreatDoor
namespace Go.Proofs.YtcgihpfanfbonaaGreatDoor
open Go.RowKit Go.Sort Go.Shelf
set_option linter.unusedVariables false
set_option linter.unusedSimpArgs false

/-- A policy and the slice of its readers. -/
abbrev PolS := Pol × Value
def pcells (x : PolS) : List Value := [.string x.1.1, x.2]
/-- Its readers are read so whatever becomes of one block. -/
def Rob (w : World) (M : Option Nat) (x : PolS) : Prop := ∀ W, w.grownBy W M → Strs W x.1.2 x.2
theorem Rob.grown {w w' : World} {M : Option Nat} {x : PolS} (h : Rob w M x) (hg : w.grownBy w' M) : Rob w' M x := fun W hW => h W (grown_grown hg hW)
/-- Also where another block of the call's own takes its place. -/
theorem Rob.fresh {w w' : World} {M : Option Nat} {g : Nat} {x : PolS} (h : Rob w M x) (hg : w.grownBy w' M) (hf : w.heap.size ≤ g) : Rob w' (some g) x := fun W hW =>
  h W ⟨hW.os.trans hg.os, hW.tape.trans hg.tape, hW.output.trans hg.output, Nat.le_trans hg.size hW.size, fun k hk hne => by
    rw [hW.block k (Nat.lt_of_lt_of_le hk hg.size) (fun e => by have := Option.some.inj e; omega), hg.block k hk hne]⟩
theorem Rob.strs {w : World} {M : Option Nat} {x : PolS} (h : Rob w M x) : Strs w x.1.2 x.2 := h w (World.grownBy.refl w _)
/-- A row of policies of the call's own. -/
def PolRow (base : Nat) (w : World) (v : Value) (d : List PolS) : Prop := w.ownsRow base 37 2 v d.length (d.flatMap pcells) ∧ ∀ x ∈ d, Rob w v.ownBlock x

theorem slice_one {w : World} {l : List Txt} {v : Value} (h : Strs w l v) : v.oneCell' = true := by
  obtain ⟨p, c, rfl, _⟩ := h; rfl
theorem pcells_at : ∀ (d : List PolS) (i j : Nat) (hi : i < d.length), j < 2 → (d.flatMap pcells)[i * 2 + j]? = (pcells d[i])[j]?
  | [], i, j, hi, _ => absurd hi (by simp)
  | x :: d, 0, j, _, hj => by
    rw [List.flatMap_cons, List.getElem?_append_left (by simp [pcells]; omega)]; simp
  | x :: d, i + 1, j, hi, hj => by
    rw [List.flatMap_cons, List.getElem?_append_right (by simp [pcells]; omega)]
    have := pcells_at d i j (by simpa using hi) hj
    rw [show (i + 1) * 2 + j - (pcells x).length = i * 2 + j by simp [pcells]; omega]
    simpa using this
theorem pcells_len (d : List PolS) : (d.flatMap pcells).length = d.length * 2 := by
  induction d with
  | nil => rfl
  | cons x d ih => rw [List.flatMap_cons, List.length_append, ih]; simp [pcells]; omega

/-- Policies whose readers are read whatever becomes of the row's block. -/
abbrev PolV (w : World) (M : Option Nat) := { x : PolS // Rob w M x }
instance (w : World) (M : Option Nat) : Inhabited (PolV w M) := ⟨⟨((ByteArray.empty, []), .slice none 0 0), fun W _ => ⟨none, 0, rfl, Nat.zero_le _, by unfold maxLen; omega, .inl rfl⟩⟩⟩
def encV {w : World} {M : Option Nat} (x : PolV w M) : List Value := pcells x.1
def cmpV {w : World} {M : Option Nat} (x y : PolV w M) : Int := cmpPol x.1.1 y.1.1
theorem cmpV_swo {w : World} {M : Option Nat} : SWO (ltOf (cmpV (w := w) (M := M))) where
  irrefl x := by unfold ltOf cmpV; rw [cmpPol_tot.self]; rfl
  trans x y z h1 h2 := by
    unfold ltOf cmpV at *
    simp at *
    exact cmpPol_tot.trans _ _ _ h1 h2
  ntrans x y z h1 h2 := by
    unfold ltOf cmpV at *
    simp at *
    have a1 := cmpPol_tot.anti x.1.1 y.1.1
    have a2 := cmpPol_tot.anti y.1.1 z.1.1
    have a3 := cmpPol_tot.anti x.1.1 z.1.1
    have := cmpPol_tot.le_trans (a := z.1.1) (b := y.1.1) (c := x.1.1) (by omega) (by omega)
    omega
theorem grown_sortWorldK {α : Type} [Inhabited α] (enc : α → List Value) (k : Nat) (w : World) (g off n : Nat) (d : Array α) (os : Array Obj) : w.grownBy (sortWorldK enc k w g off n d os) (some g) := by
  refine ⟨rfl, rfl, rfl, by simp [sortWorldK, putRowK], fun j hj hne => ?_⟩
  unfold sortWorldK putRowK
  rw [heap_grow_old _ _ (by simpa using hj)]
  have : g ≠ j := fun e => hne (by rw [e])
  simp [putRow, mapBlock, Sort.ahead, Array.getElem?_modify, this]
theorem flat_toList {w : World} {M : Option Nat} (A : Array (PolV w M)) : (flatK encV 2 A).toList = (A.toList.map Subtype.val).flatMap pcells := by
  apply List.ext_getElem?
  intro t
  by_cases ht : t < A.size * 2
  · have h1 : (flatK encV 2 A).toList[t]? = some ((encV A[t / 2]!)[t % 2]!) := by
      rw [Array.getElem?_toList, Array.getElem?_eq_getElem (by simpa using ht), ← getElem!_pos _ t (by simpa using ht), get_flatK _ _ _ _ ht]
    have hi : t / 2 < (A.toList.map Subtype.val).length := by simp; omega
    have h2 := pcells_at (A.toList.map Subtype.val) (t / 2) (t % 2) hi (by omega)
    rw [show t / 2 * 2 + t % 2 = t by omega] at h2
    rw [h1, h2]
    have hi' : t / 2 < A.size := by omega
    have e : (A.toList.map Subtype.val)[t / 2] = (A[t / 2]!).1 := by simp [getElem!_pos, hi']
    rw [e]
    show _ = (encV A[t / 2]!)[t % 2]?
    rw [List.getElem?_eq_getElem (by simp [encV, pcells]; omega), getElem!_pos]
  · rw [List.getElem?_eq_none (by simp; omega), List.getElem?_eq_none (by rw [pcells_len]; simp; omega)]
theorem cmpLays (w : World) (g : Nat) (size : Nat) : CmpLays Tryz.prog 63 #[] (encV (w := w) (M := some g)) 2 cmpV g 0 size w := fun m os dk _ x y => by
  have hW := grown_sortWorldK (encV (w := w) (M := some g)) 2 w g 0 m dk os
  refine (compare_calls x.1.1 y.1.1 x.1.2 y.1.2 _ (x.2 _ hW) (y.2 _ hW)).mono ?_
  rintro e w' ⟨he, os', hw⟩
  exact ⟨he, 0, os', by rw [hw]; rfl⟩
theorem bitlen_convert (n : Nat) (h : n < 4611686018427387904) : IntKind.u64.wrap (n : Int) = n := by simp [IntKind.wrap, IntKind.bits, IntKind.signed]; omega

set_option maxHeartbeats 2000000 in
set_option maxRecDepth 100000 in
theorem sortPol_calls (base : Nat) (v : Value) (d : List PolS) (w : World) (h : PolRow base w v d) (h0 : 0 < d.length) (hsz : d.length < 4611686018427387904) :
    Calls Tryz.prog 62 #[v, .func (.func 63) #[] #[]] w fun e w' => e = .returned (.tuple #[]) ∧
      ∃ d', d'.Perm d ∧ d'.Pairwise (fun x y => cmpPol x.1 y.1 ≤ 0) ∧ PolRow base w' v d' ∧ w.grownBy w' v.ownBlock := by
  obtain ⟨⟨hl, hown⟩, hrob⟩ := h
  rcases hown with ⟨rfl, hn⟩ | ⟨g, cap, cur, rfl, hbase, hblk, q1, q2, q3, q4⟩
  · omega
  have hM : (Value.slice (some ⟨g, 0, none⟩) d.length cap).ownBlock = some g := rfl
  rw [hM] at hrob ⊢
  have hg : g < w.heap.size := (Array.getElem?_eq_some_iff.1 hblk).1
  obtain ⟨A, hA⟩ : ∃ A : Array (PolV w (some g)), A.toList.map Subtype.val = d := ⟨(d.attach.map fun x => (⟨x.1, hrob x.1 x.2⟩ : PolV w (some g))).toArray, by simp only [List.map_map, Function.comp_def]; exact List.attach_map_subtype_val d⟩
  have hAs : A.size = d.length := by have := congrArg List.length hA; simpa using this
  have hH : HoldsK encV 2 w g 0 A := fun t ht => by
    have ht' : t < d.length * 2 := by rw [← hAs]; simpa using ht
    have e1 : (flatK encV 2 A)[t]? = (d.flatMap pcells)[t]? := by rw [← Array.getElem?_toList, flat_toList, hA]
    have e2 : (flatK encV 2 A)[t]? = some (flatK encV 2 A)[t]! := by rw [getElem!_pos _ t ht, Array.getElem?_eq_getElem ht]
    refine ⟨?_, by simp [World.frozen?, hblk]⟩
    rw [← q4, List.getElem?_take_of_lt ht', Array.getElem?_toList, e2] at e1
    simpa [World.cell?, hblk] using e1.symm
  have eg : ∀ args w, (callFunc 63 args).run Tryz.prog w = .ok (.enter 63 args) w := enters_at Tryz.func63 (by kernel_rfl) rfl
  have hlim : Lib.bitLen A.size < 4611686018427387904 := Nat.lt_of_le_of_lt (Lib.bitLen_le A.size 62 (by omega) (by omega)) (by omega)
  have hp := AnyQ.pdqsortCmpFunc_all Tryz.pdqPol 2 (fun w => Tryz.isAgg37 w) (fun w => Tryz.sizeOf37 w) encV cmpV 63 #[] cmpV_swo g 0 cap A w eg (cmpLays w g A.size)
    ⟨fun x => rfl, fun x u hu => by
      have h2 := slice_one x.2.strs
      simp [encV, pcells] at hu
      rcases hu with rfl | rfl
      · rfl
      · exact h2, hH, hg⟩ (A.size + 1) 0 A.size (Lib.bitLen A.size) A w (by omega) rfl (SWK.start hH) (Nat.zero_le _) (Nat.le_refl _) (by omega) hlim (Or.inl rfl)
  change Calls Tryz.prog 93 _ _ _ at hp
  have hb := Tryz.bits_Len (A.size : Int) w (by omega) (by omega)
  rw [Int.toNat_natCast] at hb
  have wr := bitlen_convert A.size (by omega)
  rw [hAs] at hp hb wr
  have hsorts := pdq_sorts (ltOf cmpV) cmpV_swo A 0 A.size (Lib.bitLen A.size) true true (Nat.zero_le _) (Nat.le_refl _) (Or.inl rfl)
  rw [hAs] at hsorts
  obtain ⟨S, hS⟩ : ∃ S, pdq (ltOf cmpV) A 0 d.length (Lib.bitLen d.length) true true = S := ⟨_, rfl⟩
  rw [hS] at hp hsorts
  have HP := Lib.hid hp
  have HB := Lib.hid hb
  have HPOST : Hid (∀ w', SWK encV 2 w g 0 S w' → ∃ d', d'.Perm d ∧ d'.Pairwise (fun x y => cmpPol x.1 y.1 ≤ 0) ∧ PolRow base w' (.slice (some ⟨g, 0, none⟩) d.length cap) d' ∧ w.grownBy w' (some g)) := by
    rintro w' ⟨n, os, rfl⟩
    obtain ⟨⟨p1, p2, p3⟩, p4⟩ := hsorts
    have hSs : S.size = d.length := p1.trans hAs
    have hper : (S.toList.map Subtype.val).Perm d := by
      rw [← hA]
      refine List.Perm.map _ ?_
      have e1 : (S.extract 0 d.length).toList = S.toList := by rw [← hSs]; simp
      have e2 : (A.extract 0 d.length).toList = A.toList := by rw [← hAs]; simp
      rw [e1, e2] at p3
      exact p3
    refine ⟨S.toList.map Subtype.val, hper, ?_, ⟨?_, ?_⟩, grown_sortWorldK _ _ _ _ _ _ _ _⟩
    · rw [List.pairwise_iff_getElem]
      intro i j hi hj hij
      have hi' : i < S.size := by simpa using hi
      have hj' : j < S.size := by simpa using hj
      have := p4 i j (Nat.zero_le _) hij (by omega)
      unfold ltOf cmpV at this
      rw [getElem!_pos _ i hi', getElem!_pos _ j hj'] at this
      simp at this
      have ha := cmpPol_tot.anti (S[j]).1.1 (S[i]).1.1
      simp
      omega
    · have hlen : (S.toList.map Subtype.val).length = d.length := by simp [hSs]
      rw [hlen]
      refine ⟨by rw [pcells_len, hlen], .inr ⟨g, cap, putCells id 0 (flatK encV 2 S) cur, rfl, hbase, ?_, q1, q2, by simp [putCells, q3], ?_⟩⟩
      · unfold sortWorldK putRowK
        rw [heap_grow_old _ _ (by simpa using hg)]
        simp [putRow, mapBlock, Sort.ahead, Array.getElem?_modify, hblk, onCells]
      · rw [← flat_toList]
        apply List.ext_getElem?
        intro t
        by_cases ht : t < d.length * 2
        · have ht2 : t < (flatK encV 2 S).size := by rw [size_flatK, hSs]; exact ht
          have ht3 : t < cur.size := by rw [q3]; omega
          rw [List.getElem?_take_of_lt ht, Array.getElem?_toList, Array.getElem?_toList, Array.getElem?_eq_getElem ht2, ← getElem!_pos _ t ht2]
          simp [putCells, ht3]
          intro h; rw [hSs] at h; omega
        · rw [List.getElem?_take_eq_none (by omega), List.getElem?_eq_none (by simp [hSs]; omega)]
    · intro x hx
      obtain ⟨y, hy, rfl⟩ := List.mem_map.1 hx
      exact y.2.grown (grown_sortWorldK _ _ _ _ _ _ _ _)
  have h1' : (d.length : Int) < 4611686018427387904 := by omega
  clear hp hb hsorts hS hH hlim hrob q4 hl hblk q3
  go_enter Tryz.func62, Tryz.ntmps62
  go_wp2_with (fail)
  refine HB.out.mono ?_
  rintro e w1 ⟨rfl, rfl⟩
  go_wp2_with (fail)
  refine HP.out.mono ?_
  rintro e w2 ⟨rfl, hsw⟩
  obtain ⟨d', r1, r2, r3, r4⟩ := HPOST.out _ hsw
  go_wp2
  go_end0
  exact ⟨rfl, d', r1, r2, r3, r4⟩
end Go.Proofs.YtcgihpfanfbonaaGreatDoor
