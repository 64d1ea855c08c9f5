/-
  Texts put together: strings.Join. Texts put together: plain laws of joinT. label.Print: a label's text. Plain law of trees: the form of an expression, and its text. The reader of tokens in memory: one block that is turned; all else stands. Equal lists, element by element; worlds but for answers drawn. The reader's small steps. What the reader gathers in a list: the state of the loop; expressions and policies as values. parse.list: something, and again something behind each sign; printed by pargen.py. Plain law: reading goes on, never back. The reader's labels and arguments.
-/
import Derived.Test.YtfigfefpejpboaaGreatDoorShelf
import Derived.Test.YtfigfefpejpboaaGreatDoorPP00
import Derived.Laws.OwnMore
import Derived.Lib.LaidTab
import Derived.Lib.Space
import Derived.BigQuiet
import Derived.WalkSmall
import Derived.Deep.LoopGhost
import Derived.Maps.AppendAt
namespace Go.Proofs.YtfigfefpejpboaaGreatDoor
open Go.RowKit
set_option linter.unusedVariables false
set_option linter.unusedSimpArgs false

def bytesT (l : List UInt8) : Txt := ⟨l.toArray⟩
/-- Texts with one between each two. -/
def joinT (l : List Txt) (sep : Txt) : Txt := bytesT (Lib.join (l.map (·.data.toList)) sep.data.toList)
theorem join_calls (l : List Txt) (sep : Txt) (v : Value) (w : World) (h : Strs w l v) (hl : (Lib.join (l.map (·.data.toList)) sep.data.toList).length ≤ 140737488355328) (hn : l.length ≤ 140737488355328) :
    Calls Tryz.prog 40 #[v, .string sep] w fun e w' => e = .returned (.string (joinT l sep)) ∧ Below w.heap.size w w' := by
  obtain ⟨b, o, c, p, rfl, hlc, hc, hp, hcells⟩ := h.cells
  by_cases h0 : l.length = 0
  · have e : l = [] := List.length_eq_zero_iff.1 h0
    subst e
    refine (Tryz.strings_Join_none p c sep w).mono ?_
    rintro e w' ⟨rfl, rfl⟩
    exact ⟨rfl, Below.refl _ _⟩
  · obtain rfl := hp (by omega)
    exact Tryz.strings_Join b o c l sep w (fun j x hx => by
      obtain ⟨hj, rfl⟩ := List.getElem?_eq_some_iff.1 hx
      exact hcells j hj) (cell_lt (hcells 0 (by omega))) hn hlc hl
end Go.Proofs.YtfigfefpejpboaaGreatDoor
namespace Go.Proofs.YtfigfefpejpboaaGreatDoor
open Go.RowKit
set_option linter.unusedVariables false
set_option linter.unusedSimpArgs false

theorem bytesT_append (a b : List UInt8) : bytesT (a ++ b) = bytesT a ++ bytesT b := by
  unfold bytesT; rw [ByteArray.mk_append_mk]
theorem bytesT_data (s : Txt) : bytesT s.data.toList = s := by
  cases s; simp [bytesT]
theorem joinT_nil (sep : Txt) : joinT [] sep = ByteArray.empty := rfl
theorem joinT_one (y sep : Txt) : joinT [y] sep = y := by
  unfold joinT; rw [List.map_cons, List.map_nil, Lib.join_one, bytesT_data]
theorem joinT_snoc (l : List Txt) (y sep : Txt) (h : l ≠ []) : joinT (l ++ [y]) sep = joinT l sep ++ sep ++ y := by
  cases l with
  | nil => exact absurd rfl h
  | cons x l =>
    unfold joinT
    rw [List.cons_append, List.map_cons, List.map_cons, Lib.join_cons, Lib.join_cons, List.map_append, List.map_cons, List.map_nil]
    unfold Lib.joinTail
    rw [List.map_append, List.flatten_append]
    simp only [List.map_cons, List.map_nil, List.flatten_cons, List.flatten_nil, List.append_nil, bytesT_append, bytesT_data, ByteArray.append_assoc]
theorem empty_append (s : Txt) : ByteArray.empty ++ s = s := by simp
theorem join_len (l : List Txt) (sep : Txt) (m : Nat) (h : ∀ s ∈ l, s.size ≤ m) : (Lib.join (l.map (·.data.toList)) sep.data.toList).length ≤ l.length * (m + sep.size) := by
  cases l with
  | nil => simp [Lib.join_nil]
  | cons x l =>
    rw [List.map_cons, Lib.join_cons]
    have hx : x.data.toList.length ≤ m := h x (by simp)
    have : ∀ (l : List Txt), (∀ s ∈ l, s.size ≤ m) → (Lib.joinTail sep.data.toList (l.map (·.data.toList))).length ≤ l.length * (m + sep.size) := by
      intro l
      induction l with
      | nil => intro _; simp [Lib.joinTail]
      | cons y l ih =>
        intro h
        have h1 : y.data.toList.length ≤ m := h y (by simp)
        have h2 := ih fun s hs => h s (by simp [hs])
        have h3 : sep.data.toList.length = sep.size := Array.length_toList
        simp only [Lib.joinTail, List.map_cons, List.flatten_cons, List.length_append, List.length_cons, Nat.add_mul] at h2 ⊢
        omega
    have h2 := this l fun s hs => h s (by simp [hs])
    simp only [List.length_append, List.length_cons, Nat.add_mul]
    omega
theorem joinT_size (l : List Txt) (sep : Txt) : (joinT l sep).size = (Lib.join (l.map (·.data.toList)) sep.data.toList).length := by
  exact List.size_toArray
end Go.Proofs.YtfigfefpejpboaaGreatDoor
namespace Go.Proofs.YtfigfefpejpboaaGreatDoor
open Go.RowKit Go.Maps
set_option linter.unusedVariables false
set_option linter.unusedSimpArgs false

/-- Is a policy too long to be printed? -/
def longP (p : Pol) : Bool := decide (6 < p.2.length) || (p.1 :: p.2).any fun s => decide (12 < s.size)
def longL (x : Lab) : Bool := decide (200 < x.length) || x.any longP
def colonT : Txt := ⟨#[58]⟩
def commaT : Txt := ⟨#[44]⟩
def semiT : Txt := ⟨#[59]⟩
def openT : Txt := ⟨#[123]⟩
def shutT : Txt := ⟨#[125]⟩
def polT (p : Pol) : Txt := p.1 ++ colonT ++ joinT p.2 commaT
def printT (x : Lab) : Txt := openT ++ joinT (x.map polT) semiT ++ shutT
def printE (x : Lab) : Int := if longL x then 2 else 0
def printS (x : Lab) : Txt := if longL x then ByteArray.empty else printT x
theorem long_many {x : Lab} (h : 200 < x.length) : longL x = true := by simp [longL, h]
theorem long_at {x : Lab} {k : Nat} (hk : k < x.length) (h : longP x[k] = true) : longL x = true := by
  unfold longL
  rw [Bool.or_eq_true, List.any_eq_true]
  exact .inr ⟨_, List.getElem_mem hk, h⟩
theorem long_none {x : Lab} (h0 : ¬ 200 < x.length) (h : ∀ j (hj : j < x.length), longP x[j] = false) : longL x = false := by
  unfold longL
  rw [Bool.or_eq_false_iff, List.any_eq_false]
  refine ⟨by simp; omega, fun p hp => ?_⟩
  obtain ⟨j, hj, rfl⟩ := List.getElem_of_mem hp
  simp [h j hj]
theorem longP_many {p : Pol} (h : 6 < p.2.length) : longP p = true := by simp [longP, h]
theorem longP_at {p : Pol} {ys : List Txt} (e : p.1 :: p.2 = ys) {k : Nat} (hk : k < ys.length) (h : 12 < ys[k].size) : longP p = true := by
  subst e
  unfold longP
  rw [Bool.or_eq_true, List.any_eq_true]
  exact .inr ⟨_, List.getElem_mem hk, by simpa using h⟩
theorem longP_none {p : Pol} {ys : List Txt} (e : p.1 :: p.2 = ys) (h0 : ¬ 6 < p.2.length) (h : ∀ j (hj : j < ys.length), ¬ 12 < ys[j].size) : longP p = false := by
  subst e
  unfold longP
  rw [Bool.or_eq_false_iff, List.any_eq_false]
  refine ⟨by simp; omega, fun s hs => ?_⟩
  obtain ⟨j, hj, rfl⟩ := List.getElem_of_mem hs
  have := h j hj
  simp; omega
theorem longP_false {p : Pol} (h : longP p = false) : p.2.length ≤ 6 ∧ p.1.size ≤ 12 ∧ ∀ s ∈ p.2, s.size ≤ 12 := by
  unfold longP at h
  rw [Bool.or_eq_false_iff, List.any_eq_false] at h
  refine ⟨by have := h.1; simp at this; omega, by have := h.2 p.1 (by simp); simp at this; omega, fun s hs => ?_⟩
  have := h.2 s (by simp [hs])
  simp at this; omega
theorem polT_size {p : Pol} (h : longP p = false) : (polT p).size ≤ 91 := by
  obtain ⟨h1, h2, h3⟩ := longP_false h
  have := join_len p.2 commaT 12 h3
  have e : commaT.size = 1 := rfl
  have e2 : colonT.size = 1 := rfl
  unfold polT
  rw [ByteArray.size_append, ByteArray.size_append, joinT_size, e2]
  have : p.2.length * (12 + commaT.size) ≤ 6 * 13 := Nat.mul_le_mul h1 (by rw [e]; decide)
  omega

set_option maxHeartbeats 1000000 in
set_option maxRecDepth 100000 in
theorem print_calls (x : Lab) (u : Value) (w : World) (hu : Lbl w x u) :
    Calls Tryz.prog 14 #[u] w fun e w' => e = .returned (.tuple #[.string (printS x), .int .i64 (printE x)]) ∧ Below w.heap.size w w' := by
  obtain ⟨b, o, c, p, rfl, hlc1, hcm1, hp, hcells⟩ := hu.cells
  clear hu
  obtain ⟨t0, hi, hz0, hz1, hz2⟩ := info_parts Tryz.info_stringL
  by_cases h0 : x.length ≤ 200
  · have h0' : (x.length : Int) ≤ 200 := by omega
    go_enter Tryz.func14, Tryz.ntmps14
    go_wp2
    go_loopw [4, 6, 8, 14] (fun y _ _ i wr => ∃ k : Nat, k ≤ x.length ∧ i = .int .i64 k ∧ Below w.heap.size w wr ∧ wr.ownsRow w.heap.size 9 1 y k ((x.take k).map fun p => .string (polT p)) ∧ Hid (∀ j (hj : j < x.length), j < k → longP x[j] = false)) (fun _ _ _ i _ => x.length - (intOf i).toNat)
    case atStart => exact ⟨0, Nat.zero_le _, rfl, Below.refl _ _, World.ownsRow_nil _ _ _ _, fun j _ hj => absurd hj (Nat.not_lt_zero _)⟩
    case round =>
      obtain ⟨k, hk, rfl, hb, hown, HN⟩ := hrel
      by_cases hlt : k < x.length
      · obtain ⟨ur, hca, hcb, hur⟩ := hcells k hlt
        have hcell1 : wr.cell? ⟨b, o + k * 2, none⟩ = some (.string x[k].1) := (hb.cell (cell_lt hca)).trans hca
        have hcell2 : wr.cell? ⟨b, o + k * 2 + 1, none⟩ = some ur := (hb.cell (cell_lt hcb)).trans hcb
        obtain rfl := hp (by omega)
        clear hp hcells hca hcb
        obtain ⟨pr, cr, xs, rfl, hl1, hl2, hrow, hpn, hnews⟩ := SliceOf.rows (by decide) hur
        by_cases h6 : 6 < x[k].2.length
        · have h6' : 6 < (x[k].2.length : Int) := by omega
          have HX : Hid (longL x = true) := long_at hlt (longP_many h6)
          go_wp2
          go_ret2
          exact ⟨by unfold printS printE; rw [HX.out]; rfl, hb.alloc hb.size _⟩
        · have h6' : (x[k].2.length : Int) ≤ 6 := by omega
          have hsize := hb.size
          have hlen6 : x[k].2.length ≤ 6 := by omega
          obtain ⟨W1, eW⟩ : ∃ W1, wr.alloc (.cells #[.string x[k].1, .slice pr x[k].2.length cr] 62) = W1 := ⟨_, rfl⟩
          obtain ⟨z1, hW1, m1⟩ := boxes1 eW
          have hm0 := m1 0
          have hm1 := m1 1
          simp only [List.getElem?_toArray, List.getElem?_cons_zero, List.getElem?_cons_succ] at hm0 hm1
          have hbA : Below w.heap.size w W1 := hb.trans (hW1.mono hb.size)
          have hk3 := (keeps_of_below hbA).trans (keeps_of_below ((Below.refl W1.heap.size W1).alloc (Nat.le_refl _) (.cells #[.string x[k].1] 9)))
          have hown0 : (W1.alloc (.cells #[.string x[k].1] 9)).ownsRow w.heap.size 9 1 (.slice (some ⟨wr.heap.size + 1, 0, none⟩) 1 1) 1 [.string x[k].1] := by
            have := World.ownsRow_lit (base := w.heap.size) (e := 9) (size := 1) W1 #[.string x[k].1] 1 hbA.size (by unfold maxLen; decide) rfl
            rw [z1] at this
            simpa using this
          have HROW := Lib.hid hrow
          have HNEWS := Lib.hid hnews
          have HBA := Lib.hid hbA
          have HW1 := Lib.hid hW1
          have HOWN := Lib.hid (own_below hown hW1)
          have HM0 := Lib.hid hm0
          have HM1 := Lib.hid hm1
          have HUR := Lib.hid (hur.stays (keeps_of_below hbA))
          clear hrow hnews hur hbA hW1 hown m1
          go_wp2_with (at_builtin; refine wpList_append_src _ rfl _ _ 60 rfl w.heap.size 9 t0 (.string ByteArray.empty) 1 16 Tryz.underlying60 hi hz0 hz1 hz2 rfl (by decide) _ _ _ rfl hown0 pr x[k].2.length cr xs rfl HROW.out.length hpn ?c1 (Rows.plain txt_plain HROW.out) ?c2 ?c3 ?c4 ?_)
          case c1 => exact fun ad e j u hu => cell_keep hk3 (HNEWS.out ad e j u hu)
          case c2 => unfold maxLen; omega
          case c3 => omega
          case c4 => simp; omega
          · intro v' w5 hown' hgrow
            have hS : Strs w5 (x[k].1 :: x[k].2) v' := strs_of_own hown' rfl (Rows.free (One.free _) HROW.out)
            have hb5 : Below W1.heap.size W1 w5 := ((Below.refl _ _).alloc (Nat.le_refl _) _).grown hgrow (by simp) (fun q hq => by simp [Value.ownBlock] at hq; omega)
            generalize hys : x[k].1 :: x[k].2 = ys at hS
            have HYS := Lib.hid hys
            obtain ⟨b7, o7, c7, p7, rfl, hl7, hc7, hp7, hcells7⟩ := hS.cells
            obtain rfl := hp7 (by rw [← hys]; simp)
            have HB5 := Lib.hid hb5
            clear hys hown' hgrow hS hk3 hcell1 hcell2 hb hp7 hb5
            go_wp2
            go_loop [8, 29] (fun _ i => ∃ m : Nat, m ≤ ys.length ∧ i = .int .i64 m ∧ Hid (∀ j (hj : j < ys.length), j < m → ¬ 12 < ys[j].size)) (fun _ i => ys.length - (intOf i).toNat)
            case atStart => exact ⟨0, Nat.zero_le _, rfl, fun j _ hj => absurd hj (Nat.not_lt_zero _)⟩
            case round =>
              obtain ⟨m, hm, rfl, HM⟩ := hrel
              by_cases hltm : m < ys.length
              · have hcell := hcells7 m hltm
                clear hcells7
                by_cases hs : 12 < ys[m].size
                · have HX : Hid (longL x = true) := long_at hlt (longP_at HYS.out hltm hs)
                  have hs' : 12 < (ys[m].size : Int) := by omega
                  go_wp2
                  go_ret2
                  exact ⟨by unfold printS printE; rw [HX.out]; rfl, HBA.out.trans (HB5.out.mono HBA.out.size)⟩
                · have hs' : (ys[m].size : Int) ≤ 12 := by omega
                  have HS := Lib.hid hs
                  go_wp2
                  go_round
                  case rel =>
                    refine ⟨m + 1, by omega, by go_num, fun j hj hj' => ?_⟩
                    by_cases e : j = m
                    · subst e; exact HS.out
                    · exact HM.out j hj (by omega)
                  case measure => simp [intOf]; omega
              · have HX : Hid (longP x[k] = false) := longP_none HYS.out h6 fun j hj => HM.out j hj (by omega)
                clear hcells7
                go_wp2
                have hzW := z1
                obtain ⟨ext, hx1, hx2⟩ := exists_ext w5
                have k0 : ∀ y, (ext y).cell? ⟨wr.heap.size, 0, none⟩ = some (.string x[k].1) := fun y => ((HB5.out.trans ((hx1 y).mono HB5.out.size)).cell (p := ⟨wr.heap.size, 0, none⟩) (by simp only; omega)).trans HM0.out
                have k1 : ∀ y, (ext y).cell? ⟨wr.heap.size, 1, none⟩ = some (.slice pr x[k].2.length cr) := fun y => ((HB5.out.trans ((hx1 y).mono HB5.out.size)).cell (p := ⟨wr.heap.size, 1, none⟩) (by simp only; omega)).trans HM1.out
                have HJ : Hid (∀ y, Calls Tryz.prog 40 #[.slice pr x[k].2.length cr, .string commaT] (ext y) fun e w'' => e = .returned (.string (joinT x[k].2 commaT)) ∧ ∃ z, w'' = ext z) := fun y => by
                  have hl := join_len x[k].2 commaT 12 (longP_false HX.out).2.2
                  have e1 : commaT.size = 1 := rfl
                  have hm : x[k].2.length * (12 + commaT.size) ≤ 6 * 13 := Nat.mul_le_mul hlen6 (by rw [e1]; decide)
                  refine (join_calls x[k].2 commaT _ (ext y) (HUR.out.stays (keeps_of_below (HB5.out.trans ((hx1 y).mono HB5.out.size)))) (by omega) (by omega)).mono fun e w'' ⟨h1, h2⟩ => ⟨h1, w'', hx2 _ ((hx1 y).trans (h2.mono (hx1 y).size))⟩
                have hOx : ∀ y, (ext y).ownsRow w.heap.size 9 1 _ k ((x.take k).map fun p => .string (polT p)) := fun y => own_below HOWN.out (HB5.out.trans ((hx1 y).mono HB5.out.size))
                have HOX := Lib.hid hOx
                have hbx : ∀ y, Below w.heap.size w (ext y) := fun y => HBA.out.trans ((HB5.out.trans ((hx1 y).mono HB5.out.size)).mono HBA.out.size)
                have HBX := Lib.hid hbx
                have hd := hx2 _ (Below.refl w5.heap.size w5).drew
                have HD := Lib.hid hd
                have hs1 : x[k].1.size ≤ 12 := (longP_false HX.out).2.1
                have hs2 : (joinT x[k].2 commaT).size ≤ 91 := by
                  have h := polT_size HX.out
                  unfold polT at h
                  rw [ByteArray.size_append] at h
                  omega
                clear hx1 hx2 hd hOx hbx
                refine wp_region_moved_tail 8 (fun w' => ∃ y, w' = ext y) (by kernel_rfl) rfl rfl (fun _ _ _ _ h => h) (by kernel_rfl) ⟨_, HD.out⟩ ?_
                simp only [List.take_succ_cons, List.take_zero, List.drop_succ_cons, List.drop_zero, Act.put, Act.eval, List.setIfInBounds_toArray, List.set_cons_succ, List.set_cons_zero, Array.getD_eq_getD_getElem?, List.getElem?_toArray, List.getElem?_cons_succ, List.getElem?_cons_zero, Option.getD_some]
                repeat go_big_quiet_step ((go_at_call 40; exact HJ.out _))
                refine wpQuiet_nil ?_
                rintro w' ⟨y, rfl⟩
                have hown6 := (HOX.out y)
                have hsz6 := (HBX.out y).size
                clear k0 k1
                go_wp2_with (at_builtin; refine wpList_append_own _ rfl _ _ 60 rfl w.heap.size 9 t0 (.string ByteArray.empty) 1 16 Tryz.underlying60 hi hz0 hz1 hz2 rfl (by decide) _ _ _ rfl (hown6.alloc _) ⟨(ext y).heap.size, 0, none⟩ 1 1 [.string (x[k].1 ++ ⟨#[58]⟩ ++ joinT x[k].2 commaT)] rfl rfl ?c1 ?c2 ?c3 ?c4 ?c5 ?_)
                case c1 =>
                  intro j u hj
                  match j, hj with
                  | 0, hj => simp at hj; subst hj; simp [Addr.add]
                case c2 => intro u hu; simp at hu; subst hu; rfl
                case c3 => unfold maxLen; omega
                case c4 => omega
                case c5 => simp; omega
                · intro v' w6 hown' hgrow6 _
                  go_wp2
                  go_roundw
                  case rel =>
                    refine ⟨k + 1, by omega, by go_num, ((HBX.out y).alloc (HBX.out y).size _).grown hgrow6 (by have := (HBX.out y).size; simp; omega) (fun q hq => (hown6.lt q hq).1), ?_, fun j hj hj' => ?_⟩
                    · rw [List.take_succ_eq_append_getElem hlt, List.map_append, List.map_take]
                      exact hown'
                    · by_cases e : j = k
                      · subst e; exact HX.out
                      · exact HN.out j hj (by omega)
                  case measure => simp [intOf]; omega
      · obtain rfl : k = x.length := by omega
        have HX : Hid (longL x = false) := long_none (by omega) fun j hj => HN.out j hj (by omega)
        rw [List.take_length] at hown
        have hS : Strs wr (x.map polT) _ := Strs.of_owns (l := x.map polT) (by rw [List.length_map, List.map_map]; exact hown)
        have hn : ∀ s ∈ x.map polT, s.size ≤ 91 := fun s hs => by
          obtain ⟨p, hp, rfl⟩ := List.mem_map.1 hs
          obtain ⟨j, hj, rfl⟩ := List.getElem_of_mem hp
          exact polT_size (HN.out j hj hj)
        have hl := join_len (x.map polT) semiT 91 hn
        have e1 : semiT.size = 1 := rfl
        have hm : (x.map polT).length * (91 + semiT.size) ≤ 200 * 92 := Nat.mul_le_mul (by rw [List.length_map]; exact h0) (by rw [e1]; decide)
        have HJ : Hid (Calls Tryz.prog 40 #[_, .string semiT] wr fun e w' => e = .returned (.string (joinT (x.map polT) semiT)) ∧ Below wr.heap.size wr w') := join_calls (x.map polT) semiT _ wr hS (by omega) (by rw [List.length_map]; omega)
        have hs2 : (joinT (x.map polT) semiT).size ≤ 18400 := by rw [joinT_size]; omega
        clear hS hl hm hn e1 hp hcells hown
        go_wp2_with (fail)
        refine HJ.out.mono ?_
        rintro e w1 ⟨rfl, hb1⟩
        go_wp2
        go_ret2
        exact ⟨by unfold printS printE; rw [HX.out]; rfl, hb.trans (hb1.mono hb.size)⟩
  · have h0' : 200 < (x.length : Int) := by omega
    have HX : Hid (longL x = true) := long_many (by omega)
    go_enter Tryz.func14, Tryz.ntmps14
    go_wp2
    go_ret2
    exact ⟨by unfold printS printE; rw [HX.out]; rfl, Below.refl _ _⟩
end Go.Proofs.YtfigfefpejpboaaGreatDoor
namespace Go.Proofs.YtfigfefpejpboaaGreatDoor
open Go.RowKit
set_option linter.unusedVariables false
set_option linter.unusedSimpArgs false

/-- Has a label the form of one? -/
def fitsB (l : Lab) : Bool := (printE l == 0) && !anyBy l fun p => !isName p.1 || !(!anyBy p.2 fun s => !isName s)
/-- The form of an expression, its kids aside. -/
def formB (x : Ex) (deep : Int) : Bool :=
  if x.kind = 1 then decide (deep ≤ 12) && ((x.kids.length : Int) == 0) && (x.name == ⟨#[]⟩) && ((x.lab.length : Int) == 0) && ((x.ty == 1 && decide (0 ≤ x.num) && decide (x.num ≤ 999999999)) || (x.ty == 2 && (x.num == 0 || x.num == 1)))
  else if x.kind = 2 then decide (deep ≤ 12) && isName x.name && ((x.kids.length : Int) == 0) && (x.num == 0) && (x.ty == 0) && ((x.lab.length : Int) == 0)
  else if x.kind = 3 then decide (deep ≤ 12) && ((((x.kids.length : Int) == 1) && (x.name == tMinus || x.name == tNot)) || (((x.kids.length : Int) == 2) && decide (0 < levelT x.name))) && (x.num == 0) && (x.ty == 0) && ((x.lab.length : Int) == 0)
  else if x.kind = 4 then decide (deep ≤ 12) && isName x.name && decide ((x.kids.length : Int) ≤ 4) && (x.num == 0) && (x.ty == 0) && ((x.lab.length : Int) == 0)
  else if x.kind = 5 then decide (deep ≤ 12) && ((x.kids.length : Int) == 1) && (x.name == ⟨#[]⟩) && (x.num == 0) && (x.ty == 0) && fitsB x.lab
  else false
/-- Over all of an expression: does it hold of each? -/
def walkB (visit : Ex → Int → Bool) : Nat → Ex → Bool
  | 0, x => x.kids.isEmpty && visit x 13
  | n + 1, x => x.kids.all (walkB visit n) && visit x (12 - n)
def formedB (x : Ex) : Bool := walkB formB 12 x
def quoteT (b : Bool) (s : Txt) : Txt := if b then tLeft ++ s ++ tRight else s
def blank1 : Txt := ⟨#[32]⟩
def commaSp : Txt := ⟨#[44, 32]⟩
def toT : Txt := ⟨#[32, 116, 111, 32]⟩
def releaseT : Txt := ⟨#[114, 101, 108, 101, 97, 115, 101, 40]⟩
mutual
/-- An expression's text, where something binds so tightly. -/
def textP : Ex → Int → Txt
  | .mk kind at_ n ty name l a, tight =>
    if kind = 1 then (if ty = 2 then (if n = 1 then tTrue else tFalse) else ⟨(Lib.itoa n).toArray⟩)
    else if kind = 2 then name
    else if kind = 4 then name ++ (tLeft ++ joinT (textsP a 0 0) commaSp ++ tRight)
    else if kind = 5 then releaseT ++ (textsP a 0 0).getD 0 ⟨#[]⟩ ++ toT ++ printS l ++ tRight
    else if a.length = 1 then name ++ (textsP a 6 0).getD 0 ⟨#[]⟩
    else quoteT (decide (levelT name < tight)) ((textsP a (levelT name) 1).getD 0 ⟨#[]⟩ ++ blank1 ++ name ++ blank1 ++ (textsP a (levelT name) 1).getD 1 ⟨#[]⟩)
def textsP : List Ex → Int → Int → List Txt
  | [], _, _ => []
  | x :: r, t, d => textP x t :: textsP r (t + d) d
end
end Go.Proofs.YtfigfefpejpboaaGreatDoor
namespace Go.Proofs.YtfigfefpejpboaaGreatDoor
open Go.RowKit
set_option linter.unusedVariables false
set_option linter.unusedSimpArgs false

/-- A world without one of its blocks: what is read there doesn't hang on it. -/
def mask (B : Nat) (w : World) : World := { w with heap := w.heap.setIfInBounds B (.cells #[] 0 (0, 0)) }
theorem mask_size (B : Nat) (w : World) : (mask B w).heap.size = w.heap.size := by simp [mask]
theorem mask_cell (B : Nat) (w : World) (b o : Nat) : (mask B w).cell? ⟨b, o, none⟩ = if b = B then none else w.cell? ⟨b, o, none⟩ := by
  unfold mask World.cell?
  simp only [Array.getElem?_setIfInBounds]
  by_cases h : b = B
  · subst h
    rw [if_pos rfl, if_pos rfl]
    by_cases h2 : b < w.heap.size
    · rw [if_pos h2]; simp
    · rw [if_neg h2]
  · rw [if_neg h, if_neg (fun e => h e.symm)]
theorem mask_keeps (B : Nat) (w : World) : Keeps (mask B w) w := ⟨by rw [mask_size]; exact Nat.le_refl _, fun b o v h => by
  rw [mask_cell] at h
  by_cases e : b = B
  · rw [if_pos e] at h; cases h
  · rw [if_neg e] at h; exact h⟩
/-- A world without some of its blocks. -/
def hide (p : Nat → Bool) (w : World) : World := { w with heap := w.heap.mapIdx fun i o => if p i then .cells #[] 0 (0, 0) else o }
theorem hide_size (p : Nat → Bool) (w : World) : (hide p w).heap.size = w.heap.size := by simp [hide]
theorem hide_cell (p : Nat → Bool) (w : World) (b o : Nat) : (hide p w).cell? ⟨b, o, none⟩ = if p b then none else w.cell? ⟨b, o, none⟩ := by
  unfold hide World.cell?
  simp only [Array.getElem?_mapIdx]
  cases hp : p b with
  | true =>
    cases hb : w.heap[b]? <;> simp
  | false => cases hb : w.heap[b]? <;> simp
theorem hide_keeps (p : Nat → Bool) (w : World) : Keeps (hide p w) w := ⟨by rw [hide_size]; exact Nat.le_refl _, fun b o v h => by
  rw [hide_cell] at h
  split at h
  · cases h
  · exact h⟩
theorem keeps_hide {p q : Nat → Bool} {w w' : World} (hs : w.heap.size ≤ w'.heap.size) (h : ∀ b, b < w.heap.size → p b = false → q b = false ∧ w'.heap[b]? = w.heap[b]?) : Keeps (hide p w) (hide q w') :=
  ⟨by rw [hide_size, hide_size]; exact hs, fun b o v hv => by
    rw [hide_cell] at hv ⊢
    cases hp : p b with
    | true => simp [hp] at hv
    | false =>
      simp only [hp, Bool.false_eq_true, if_false] at hv
      obtain ⟨h1, h2⟩ := h b (cell_lt hv) hp
      simp only [h1, Bool.false_eq_true, if_false]
      rw [World.cell?_of_block (a := ⟨b, o, none⟩) h2]
      exact hv⟩
/-- A world without what is older. -/
abbrev since (n : Nat) (w : World) : World := hide (fun b => decide (b < n)) w
/-- All but one block of a world stands. -/
abbrev Aside1 (B : Nat) (w w' : World) : Prop := w.grownBy w' (some B)
section
variable {B : Nat} {w w' w'' : World}
theorem Aside1.refl (B : Nat) (w : World) : Aside1 B w w := World.grownBy.refl w _
theorem Aside1.trans (h : Aside1 B w w') (k : Aside1 B w' w'') : Aside1 B w w'' :=
  ⟨k.os.trans h.os, k.tape.trans h.tape, k.output.trans h.output, Nat.le_trans h.size k.size, fun i hi hne => (k.block i (Nat.lt_of_lt_of_le hi h.size) hne).trans (h.block i hi hne)⟩
theorem aside_below (h : Below w.heap.size w w') : Aside1 B w w' := ⟨h.os, h.tape, h.output, h.size, fun i hi _ => h.block i hi⟩
theorem aside_set (o : Nat) (v : Value) : Aside1 B w (w.setCell ⟨B, o, none⟩ v) :=
  ⟨rfl, rfl, rfl, by simp [World.setCell], fun i hi hne => Below.heap_setCell _ _ _ _ (fun e => hne (by simp [e]))⟩
theorem Aside1.keeps (h : Aside1 B w w') : Keeps (mask B w) (mask B w') := ⟨by rw [mask_size, mask_size]; exact h.size, fun b o v hv => by
  rw [mask_cell] at hv ⊢
  by_cases e : b = B
  · rw [if_pos e] at hv; cases hv
  · rw [if_neg e] at hv ⊢
    have hb := cell_lt hv
    rw [World.cell?_of_block (a := ⟨b, o, none⟩) (h.block b hb (fun e2 => e (by simpa using e2)))]
    exact hv⟩
theorem Aside1.cell (h : Aside1 B w w') {b o : Nat} {v : Value} (hb : b ≠ B) (hv : w.cell? ⟨b, o, none⟩ = some v) : w'.cell? ⟨b, o, none⟩ = some v := by
  rw [World.cell?_of_block (a := ⟨b, o, none⟩) (h.block b (cell_lt hv) (fun e2 => hb (by simpa using e2)))]
  exact hv
/-- What is written is above what stood. -/
theorem below_aside {n : Nat} {u : World} (h : Below n u w) (k : Aside1 B w w') (hn : n ≤ w.heap.size) (hB : n ≤ B) : Below n u w' :=
  h.grown k hn (fun i hi => by simp at hi; omega)
end
theorem since_aside {B n : Nat} {w w' : World} (h : Aside1 B w w') (hB : B < n) : Keeps (since n w) (since n w') :=
  keeps_hide h.size fun b hb hp => ⟨hp, h.block b hb (fun e => by simp at e hp; omega)⟩
theorem since_mono {n m : Nat} (w : World) (h : n ≤ m) : Keeps (since m w) (since n w) :=
  keeps_hide (Nat.le_refl _) fun b hb hp => ⟨by simp at hp ⊢; omega, rfl⟩
/-- The table of spaces stands. -/
abbrev Tab (w : World) : Prop := Lib.TabIs Tryz.prog w "strings.asciiSpace" .u8 Lib.asciiSpaceTab
theorem tab_same {w w' : World} (h : Tab w) (e : 1 < w.heap.size → w'.heap[1]? = w.heap[1]?) : Tab w' := by
  have hgn : Tryz.prog.globalNamed "strings.asciiSpace" = some 1 := by kernel_rfl
  unfold Tab Lib.TabIs World.var? at h ⊢
  rw [hgn] at h ⊢
  simp only [Option.bind_some] at h ⊢
  have hlt : 1 < w.heap.size := by
    rcases Nat.lt_or_ge 1 w.heap.size with h' | h'
    · exact h'
    · rw [Array.getElem?_eq_none h'] at h; cases h
  rw [e hlt]
  exact h
theorem Tab.below {w w' : World} (h : Tab w) (hb : Below w.heap.size w w') : Tab w' := tab_same h fun hl => hb.block _ hl
theorem tab_ne {w : World} {B : Nat} (h : Tab (mask B w)) : 1 ≠ B := by
  intro e
  have hgn : Tryz.prog.globalNamed "strings.asciiSpace" = some 1 := by kernel_rfl
  unfold Tab Lib.TabIs World.var? at h
  rw [hgn] at h
  simp only [Option.bind_some, mask, e, Array.getElem?_setIfInBounds_self] at h
  by_cases hb : B < w.heap.size
  · rw [if_pos hb] at h
    have h2 := congrArg (fun o => o.map Array.size) h
    revert h2
    decide +kernel
  · rw [if_neg hb] at h
    cases h
theorem mask_at {w : World} {B b : Nat} (h : b ≠ B) : (mask B w).heap[b]? = w.heap[b]? := by
  unfold mask
  simp only [Array.getElem?_setIfInBounds]
  rw [if_neg (fun e => h e.symm)]
theorem Tab.bare {w : World} {B : Nat} (h : Tab (mask B w)) : Tab w := tab_same h fun _ => (mask_at (tab_ne h)).symm
theorem Tab.aside {w w' : World} {B : Nat} (h : Tab (mask B w)) (ha : Aside1 B w w') : Tab (mask B w') := tab_same h fun hl => by
  have hn := tab_ne h
  rw [mask_at hn, mask_at hn, ha.block _ (by rw [mask_size] at hl; exact hl) (fun e => hn (by simpa using e))]
/-- The reader of tokens. -/
structure Rdr (w : World) (B : Nat) (T : List Tok) (E : Int) (tv : Value) (k : Nat) (dp ns : Nat) : Prop where
  blk : w.heap[B]? = some (.cells #[tv, .int .i64 k, .int .i64 E, .int .i64 dp, .int .i64 ns] 95 (0, 0))
  toks : Toks (mask B w) T tv
  tab : Tab (mask B w)
section
variable {w w' : World} {B : Nat} {T : List Tok} {E : Int} {tv : Value} {k dp ns : Nat}
theorem Rdr.lt (h : Rdr w B T E tv k dp ns) : B < w.heap.size := (Array.getElem?_eq_some_iff.1 h.blk).1
theorem Rdr.c0 (h : Rdr w B T E tv k dp ns) : w.cell? ⟨B, 0, none⟩ = some tv := by simp [World.cell?, h.blk]
theorem Rdr.c1 (h : Rdr w B T E tv k dp ns) : w.cell? ⟨B, 1, none⟩ = some (.int .i64 k) := by simp [World.cell?, h.blk]
theorem Rdr.c2 (h : Rdr w B T E tv k dp ns) : w.cell? ⟨B, 2, none⟩ = some (.int .i64 E) := by simp [World.cell?, h.blk]
theorem Rdr.c3 (h : Rdr w B T E tv k dp ns) : w.cell? ⟨B, 3, none⟩ = some (.int .i64 dp) := by simp [World.cell?, h.blk]
theorem Rdr.c4 (h : Rdr w B T E tv k dp ns) : w.cell? ⟨B, 4, none⟩ = some (.int .i64 ns) := by simp [World.cell?, h.blk]
theorem Rdr.fz (h : Rdr w B T E tv k dp ns) (i : Nat) : w.frozen? ⟨B, i, none⟩ = false := by simp [World.frozen?, h.blk]
theorem Rdr.below (h : Rdr w B T E tv k dp ns) (hb : Below w.heap.size w w') : Rdr w' B T E tv k dp ns :=
  ⟨by rw [hb.block B h.lt]; exact h.blk, h.toks.stays (aside_below hb).keeps, h.tab.aside (aside_below hb)⟩
theorem Rdr.setK (h : Rdr w B T E tv k dp ns) (k' : Nat) : Rdr (w.setCell ⟨B, 1, none⟩ (.int .i64 k')) B T E tv k' dp ns :=
  ⟨by simp [World.setCell, Array.getElem?_modify, h.blk], h.toks.stays (aside_set _ _).keeps, h.tab.aside (aside_set _ _)⟩
theorem Rdr.setD (h : Rdr w B T E tv k dp ns) (k' : Nat) : Rdr (w.setCell ⟨B, 3, none⟩ (.int .i64 k')) B T E tv k k' ns :=
  ⟨by simp [World.setCell, Array.getElem?_modify, h.blk], h.toks.stays (aside_set _ _).keeps, h.tab.aside (aside_set _ _)⟩
theorem Rdr.setN (h : Rdr w B T E tv k dp ns) (k' : Nat) : Rdr (w.setCell ⟨B, 4, none⟩ (.int .i64 k')) B T E tv k dp k' :=
  ⟨by simp [World.setCell, Array.getElem?_modify, h.blk], h.toks.stays (aside_set _ _).keeps, h.tab.aside (aside_set _ _)⟩
theorem Rdr.open' (h : Rdr w B T E tv k dp ns) : ∃ bt ot ct pt, tv = .slice pt T.length ct ∧ T.length ≤ ct ∧ ct ≤ 9223372036854775807 ∧ (0 < T.length → pt = some ⟨bt, ot, none⟩) ∧
    ∀ (i : Nat) (h : i < T.length), w.cell? ⟨bt, ot + i * 3, none⟩ = some (.int .i64 T[i].1) ∧ w.cell? ⟨bt, ot + i * 3 + 1, none⟩ = some (.int .i64 T[i].2.1) ∧ w.cell? ⟨bt, ot + i * 3 + 2, none⟩ = some (.string T[i].2.2) := by
  obtain ⟨p, c, e, h1, h2, h3⟩ := h.toks.stays (mask_keeps B w)
  unfold maxLen at h2
  rcases h3 with rfl | ⟨b, o, hp, h3⟩
  · exact ⟨0, 0, c, p, e, h1, by omega, fun h => absurd h (by simp), fun i h => absurd h (by simp)⟩
  · refine ⟨b, o, c, p, e, h1, by omega, fun _ => hp, fun i hi => ?_⟩
    obtain ⟨vs, ⟨us, us', e1, e2, us2, us3, e3, e4, e5⟩, g2, g3⟩ := h3 i hi
    have e2' : us = [.int .i64 T[i].1] := e2
    have e4' : us2 = [.int .i64 T[i].2.1] := e4
    have e5' : us3 = [.string T[i].2.2] := e5
    subst e2' e4' e5' e3 e1
    exact ⟨by simpa using g3 0 _ rfl, by simpa using g3 1 _ rfl, by simpa using g3 2 _ rfl⟩
end
/-- A panic of the reader. -/
def stopV (c a : Int) : Value := .iface 89 (.agg #[.int .i64 c, .int .i64 a])
/-- The reader's block is still one, whatever its numbers. -/
def Left (w : World) (B : Nat) (E : Int) (tv : Value) : Prop := ∃ k a b : Int, w.heap[B]? = some (.cells #[tv, .int .i64 k, .int .i64 E, .int .i64 a, .int .i64 b] 95 (0, 0))
theorem Rdr.left {w : World} {B : Nat} {T : List Tok} {E : Int} {tv : Value} {k dp ns : Nat} (h : Rdr w B T E tv k dp ns) : Left w B E tv := ⟨k, dp, ns, h.blk⟩
theorem Left.below {w w' : World} {B : Nat} {E : Int} {tv : Value} (h : Left w B E tv) (hb : Below w.heap.size w w') : Left w' B E tv := by
  obtain ⟨k, a, b, h⟩ := h
  exact ⟨k, a, b, by rw [hb.block B (Array.getElem?_eq_some_iff.1 h).1]; exact h⟩
/-- What a step of the reader does. -/
def Does {α : Type} (w : World) (B : Nat) (T : List Tok) (E : Int) (tv : Value) (dp ns : Nat) (X : World → α → Value → Prop) (r : Rs α) (e : Ending) (w' : World) : Prop :=
  Aside1 B w w' ∧ match r with
    | .ok x k => ∃ v, e = .returned v ∧ Rdr w' B T E tv k dp ns ∧ X (since w.heap.size w') x v
    | .bad c a => e = .panicked [{ v := stopV c a, recovered := false }] ∧ Left w' B E tv
end Go.Proofs.YtfigfefpejpboaaGreatDoor
namespace Go.Proofs.YtfigfefpejpboaaGreatDoor
open Go.RowKit
set_option linter.unusedVariables false
set_option linter.unusedSimpArgs false

/-- `[]int`. -/
abbrev Nums (w : World) (l : List Int) (v : Value) : Prop := SliceOf num 1 w l v
theorem Nums.stays {w w' : World} (hk : Keeps w w') {l : List Int} {v : Value} (h : Nums w l v) : Nums w' l v := SliceOf.stays (One.stays _) hk h
/-- A slice of data of one cell each, opened: its length, its room; its cells. -/
theorem One.cells {α : Type} {f : α → Value} {w : World} {l : List α} {v : Value} (h : SliceOf (One f) 1 w l v) :
    ∃ b o c p, v = .slice p l.length c ∧ l.length ≤ c ∧ c ≤ 9223372036854775807 ∧ (0 < l.length → p = some ⟨b, o, none⟩) ∧ ∀ (i : Nat) (h : i < l.length), w.cell? ⟨b, o + i, none⟩ = some (f l[i]) := by
  obtain ⟨p, c, e, h1, h2, h3⟩ := h
  unfold maxLen at h2
  rcases h3 with rfl | ⟨b, o, hp, h3⟩
  · exact ⟨0, 0, c, p, e, h1, by omega, fun h => absurd h (by simp), fun i h => absurd h (by simp)⟩
  · refine ⟨b, o, c, p, e, h1, by omega, fun _ => hp, fun i hi => ?_⟩
    obtain ⟨vs, g1, g2, g3⟩ := h3 i hi
    have := g3 0 (f l[i]) (by rw [g1]; rfl)
    simpa using this

theorem eq_len {α : Type} [BEq α] {l m : List α} (h : l.length ≠ m.length) : (l == m) = false := by
  induction l generalizing m with
  | nil => cases m with
    | nil => simp at h
    | cons y m => rfl
  | cons x l ih => cases m with
    | nil => rfl
    | cons y m =>
      have : (l == m) = false := ih (by simpa using h)
      show (x == y && l == m) = false
      rw [this]; simp
theorem eq_at {α : Type} [BEq α] [LawfulBEq α] {l m : List α} {k : Nat} (h1 : k < l.length) (h2 : k < m.length) (h : (l[k] == m[k]) = false) : (l == m) = false := by
  rw [beq_eq_false_iff_ne]
  rintro rfl
  simp at h
theorem eq_all {α : Type} [BEq α] [LawfulBEq α] {l m : List α} (hn : l.length = m.length) (h : ∀ j (h1 : j < l.length) (h2 : j < m.length), (l[j] == m[j]) = true) : (l == m) = true := by
  rw [beq_iff_eq]
  exact List.ext_getElem hn fun j h1 h2 => by simpa using h j h1 h2

theorem below_drewN {B : Nat} {a w : World} (h : Below B a w) (n : Nat) : Below B a (w.drewN n) := ⟨h.os, h.tape, h.output, h.size, h.block⟩
/-- The world is the old one, but for answers drawn. -/
def Quiet (w w' : World) : Prop := ∃ n, w' = w.drewN n
theorem Quiet.below {w w' : World} (h : Quiet w w') : Below w.heap.size w w' := by
  obtain ⟨n, rfl⟩ := h
  have h := Below.refl w.heap.size w
  exact ⟨h.os, h.tape, h.output, h.size, h.block⟩

end Go.Proofs.YtfigfefpejpboaaGreatDoor
namespace Go.Proofs.YtfigfefpejpboaaGreatDoor
open Go.RowKit
set_option linter.unusedVariables false
set_option linter.unusedSimpArgs false

section
variable {w : World} {B : Nat} {T : List Tok} {E : Int} {tv : Value} {k dp ns : Nat}
theorem tkAt_lt {k : Nat} (h : k < T.length) (E : Int) : tkAt T E k = T[k].2.1 := by unfold tkAt; rw [List.getElem?_eq_getElem h]
theorem tkAt_ge {k : Nat} (h : ¬ k < T.length) (E : Int) : tkAt T E k = E := by unfold tkAt; rw [List.getElem?_eq_none (by omega)]
theorem tkNext_lt {k : Nat} (h : k < T.length) : tkNext T k = T[k] := by unfold tkNext; rw [List.getElem?_eq_getElem h]; rfl
theorem tkNext_ge {k : Nat} (h : ¬ k < T.length) : tkNext T k = (0, 0, ⟨#[]⟩) := by unfold tkNext; rw [List.getElem?_eq_none (by omega)]; rfl
set_option maxHeartbeats 1000000 in
set_option maxRecDepth 100000 in
theorem at_calls (h : Rdr w B T E tv k dp ns) : Calls Tryz.prog 114 #[.pointer (some ⟨B, 0, none⟩)] w fun e w' => e = .returned (.int .i64 (tkAt T E k)) ∧ Below w.heap.size w w' := by
  obtain ⟨bt, ot, ct, pt, rfl, hlt, hct, hpt, hcells⟩ := h.open'
  have h0 := h.c0
  have h1 := h.c1
  have h2 := h.c2
  by_cases hk : k < T.length
  · obtain ⟨g0, g1, g2⟩ := hcells k hk
    obtain rfl := hpt (by omega)
    have HA := Lib.hid (tkAt_lt hk E)
    have hk' : (k : Int) < (T.length : Int) := by omega
    have hk0 : (0 : Int) ≤ (k : Int) := by omega
    generalize T[k] = t at *
    clear hcells hpt h
    go_enter Tryz.func114, Tryz.ntmps114
    go_wp2_with (fail)
    go_quiet (fail)
    go_wp2_with (fail)
    go_quiet (fail)
    go_wp2_with (fail)
    go_ret
    exact ⟨by rw [HA.out]; rfl, below_drewN (below_drewN (Below.refl _ _) _) _⟩
  · have HA := Lib.hid (tkAt_ge hk E)
    have hk' : ¬ (k : Int) < (T.length : Int) := by omega
    clear hcells hpt h
    go_enter Tryz.func114, Tryz.ntmps114
    go_wp2_with (fail)
    go_quiet (fail)
    go_wp2_with (fail)
    go_ret
    exact ⟨by rw [HA.out]; rfl, below_drewN (Below.refl _ _) _⟩
theorem cells3 {W : World} {b : Nat} {x y z : Value} (h0 : W.cell? ⟨b, 0, none⟩ = some x) (h1 : W.cell? ⟨b, 1, none⟩ = some y) (h2 : W.cell? ⟨b, 2, none⟩ = some z) (u v t : Value) :
    (((W.setCell ⟨b, 0, none⟩ u).setCell ⟨b, 1, none⟩ v).setCell ⟨b, 2, none⟩ t).cell? ⟨b, 0, none⟩ = some u ∧ (((W.setCell ⟨b, 0, none⟩ u).setCell ⟨b, 1, none⟩ v).setCell ⟨b, 2, none⟩ t).cell? ⟨b, 1, none⟩ = some v ∧ (((W.setCell ⟨b, 0, none⟩ u).setCell ⟨b, 1, none⟩ v).setCell ⟨b, 2, none⟩ t).cell? ⟨b, 2, none⟩ = some t := by
  have e1 : (W.setCell ⟨b, 0, none⟩ u).cell? ⟨b, 1, none⟩ = some y := by rw [World.cell?_setCell_other _ _ _ _ (by simp)]; exact h1
  have e2 : ((W.setCell ⟨b, 0, none⟩ u).setCell ⟨b, 1, none⟩ v).cell? ⟨b, 2, none⟩ = some z := by rw [World.cell?_setCell_other _ _ _ _ (by simp), World.cell?_setCell_other _ _ _ _ (by simp)]; exact h2
  refine ⟨?_, ?_, World.cell?_setCell_same _ _ _ e2⟩
  · rw [World.cell?_setCell_other _ _ _ _ (by simp), World.cell?_setCell_other _ _ _ _ (by simp)]; exact World.cell?_setCell_same _ _ _ h0
  · rw [World.cell?_setCell_other _ _ _ _ (by simp)]; exact World.cell?_setCell_same _ _ _ e1
theorem frozen_new (W : World) (c : Array Value) (t : TypeId) (i : Nat) : (W.alloc (.cells c t)).frozen? ⟨W.heap.size, i, none⟩ = false := by
  unfold World.frozen?
  rw [heap_alloc_new]
  simp
set_option maxHeartbeats 1000000 in
set_option maxRecDepth 100000 in
theorem next_calls (h : Rdr w B T E tv k dp ns) : Calls Tryz.prog 72 #[.pointer (some ⟨B, 0, none⟩)] w fun e w' => e = .returned (.agg #[.int .i64 (tkNext T k).1, .int .i64 (tkNext T k).2.1, .string (tkNext T k).2.2]) ∧ Below w.heap.size w w' := by
  obtain ⟨W1, eW⟩ : ∃ W1, w.alloc (.cells #[.int .i64 0, .int .i64 0, .string ⟨#[]⟩] 93) = W1 := ⟨_, rfl⟩
  obtain ⟨z1, hW, m1⟩ := boxes1 eW
  have hfz : ∀ i, W1.frozen? ⟨w.heap.size, i, none⟩ = false := fun i => by rw [← eW]; exact frozen_new _ _ _ i
  have h' := h.below hW
  obtain ⟨bt, ot, ct, pt, rfl, hlt, hct, hpt, hcells⟩ := h'.open'
  have HW := Lib.hid hW
  have HX : Hid (∀ W, Below W1.heap.size W1 W → W.cell? ⟨B, 0, none⟩ = some (.slice pt T.length ct) ∧ W.cell? ⟨B, 1, none⟩ = some (.int .i64 k) ∧ W.cell? ⟨w.heap.size, 0, none⟩ = some (.int .i64 0) ∧ W.cell? ⟨w.heap.size, 1, none⟩ = some (.int .i64 0) ∧ W.cell? ⟨w.heap.size, 2, none⟩ = some (.string ⟨#[]⟩) ∧
      W.frozen? ⟨w.heap.size, 0, none⟩ = false ∧ W.frozen? ⟨w.heap.size, 1, none⟩ = false ∧ W.frozen? ⟨w.heap.size, 2, none⟩ = false) := fun W hb => by
    have hz : w.heap.size < W1.heap.size := by omega
    exact ⟨(hb.cell (p := ⟨B, 0, none⟩) h'.lt).trans h'.c0, (hb.cell (p := ⟨B, 1, none⟩) h'.lt).trans h'.c1, (hb.cell (p := ⟨w.heap.size, 0, none⟩) hz).trans (m1 0), (hb.cell (p := ⟨w.heap.size, 1, none⟩) hz).trans (m1 1), (hb.cell (p := ⟨w.heap.size, 2, none⟩) hz).trans (m1 2),
      (hb.frozen (p := ⟨w.heap.size, 0, none⟩) hz).trans (hfz 0), (hb.frozen (p := ⟨w.heap.size, 1, none⟩) hz).trans (hfz 1), (hb.frozen (p := ⟨w.heap.size, 2, none⟩) hz).trans (hfz 2)⟩
  obtain ⟨a0, a1, a2, a3, a4, a5, a6, a7⟩ := HX.out W1 (Below.refl _ _)
  have HZ : Hid (w.heap.size ≤ w.heap.size) := Nat.le_refl _
  by_cases hk : k < T.length
  · obtain ⟨g0, g1, g2⟩ := hcells k hk
    obtain rfl := hpt (by omega)
    have HA := Lib.hid (tkNext_lt hk)
    have hk' : (k : Int) < (T.length : Int) := by omega
    have hk0 : (0 : Int) ≤ (k : Int) := by omega
    generalize T[k] = t at *
    have HG : Hid (∀ W, Below W1.heap.size W1 W → W.cell? ⟨bt, ot + k * 3, none⟩ = some (.int .i64 t.1) ∧ W.cell? ⟨bt, ot + k * 3 + 1, none⟩ = some (.int .i64 t.2.1) ∧ W.cell? ⟨bt, ot + k * 3 + 2, none⟩ = some (.string t.2.2)) := fun W hb =>
      ⟨(hb.cell (cell_lt g0)).trans g0, (hb.cell (cell_lt g1)).trans g1, (hb.cell (cell_lt g2)).trans g2⟩
    clear hcells hpt h h' m1 z1 hW g0 g1 g2 hfz
    go_enter Tryz.func72, Tryz.ntmps72
    go_wp2_with (fail)
    go_quiet (fail)
    go_wp2_with (fail)
    obtain ⟨W2, e2⟩ : ∃ W2, (W1.drewN nq).drew = W2 := ⟨_, rfl⟩
    have hb2 : Below W1.heap.size W1 W2 := by rw [← e2]; exact (below_drewN (Below.refl _ _) _).drew
    have HB2 := Lib.hid hb2
    obtain ⟨b0, b1, b2, b3, b4, b5, b6, b7⟩ := HX.out W2 hb2
    obtain ⟨c0, c1, c2⟩ := HG.out W2 hb2
    clear hb2 a0 a1 a2 a3 a4 a5 a6 a7 eW
    refine wp_region_calm_tail 10 (by kernel_rfl) (by kernel_rfl) ?_
    rw [e2]
    clear e2
    simp only [List.take_succ_cons, List.take_zero, List.drop_succ_cons, List.drop_zero]
    repeat go_big_quiet_step (fail)
    refine wpQuiet_nil ?_
    go_wp2
    refine bodyPost_ret (v := .agg #[.int .i64 t.1, .int .i64 t.2.1, .string t.2.2]) ?_ rfl ⟨by rw [HA.out], ?_⟩
    · obtain ⟨q0, q1, q2⟩ := cells3 b2 b3 b4 (.int .i64 t.1) (.int .i64 t.2.1) (.string t.2.2)
      simp [results, Tryz.results72, go_sem, q0, q1, q2]
    · exact (((HW.out.trans (HB2.out.mono HW.out.size)).setCell HZ.out _).setCell HZ.out _).setCell HZ.out _
  · have HA := Lib.hid (tkNext_ge hk)
    have hk' : ¬ (k : Int) < (T.length : Int) := by omega
    clear hcells hpt h h' m1 z1 hW hfz
    go_enter Tryz.func72, Tryz.ntmps72
    go_wp2_with (fail)
    go_quiet (fail)
    obtain ⟨W2, e2⟩ : ∃ W2, (W1.drewN nq) = W2 := ⟨_, rfl⟩
    have hb2 : Below W1.heap.size W1 W2 := by rw [← e2]; exact below_drewN (Below.refl _ _) _
    have HB2 := Lib.hid hb2
    obtain ⟨b0, b1, b2, b3, b4, b5, b6, b7⟩ := HX.out W2 hb2
    clear hb2 a0 a1 a2 a3 a4 a5 a6 a7 eW
    rw [e2]
    clear e2
    go_wp2_with (fail)
    refine bodyPost_ret (v := .agg #[.int .i64 0, .int .i64 0, .string ⟨#[]⟩]) ?_ rfl ⟨by rw [HA.out], ?_⟩
    · obtain ⟨q0, q1, q2⟩ := cells3 b2 b3 b4 (.int .i64 0) (.int .i64 0) (.string ⟨#[]⟩)
      simp [results, Tryz.results72, go_sem, q0, q1, q2]
    · exact (((HW.out.trans (HB2.out.mono HW.out.size)).setCell HZ.out _).setCell HZ.out _).setCell HZ.out _
set_option maxHeartbeats 1000000 in
set_option maxRecDepth 100000 in
theorem fail_calls (h : Rdr w B T E tv k dp ns) (c : Int) : Calls Tryz.prog 70 #[.pointer (some ⟨B, 0, none⟩), .int .i64 c] w fun e w' => e = .panicked [{ v := stopV c (tkAt T E k), recovered := false }] ∧ Below w.heap.size w w' := by
  have HA := Lib.hid (at_calls h)
  clear h
  go_enter Tryz.func70, Tryz.ntmps70
  go_wp2_with (fail)
  refine HA.out.mono ?_
  rintro e w1 ⟨rfl, hb1⟩
  have HB := Lib.hid hb1
  clear hb1
  go_wp2_with (fail)
  exact ⟨rfl, rfl, HB.out⟩
set_option maxHeartbeats 1000000 in
set_option maxRecDepth 100000 in
theorem is_calls (h : Rdr w B T E tv k dp ns) (s : Txt) : Calls Tryz.prog 118 #[.pointer (some ⟨B, 0, none⟩), .string s] w fun e w' => e = .returned (.bool (tkIs T k s)) ∧ Below w.heap.size w w' := by
  have HA := Lib.hid (next_calls h)
  have HT : Hid (tkIs T k s = (((tkNext T k).1 == 3 || (tkNext T k).1 == 4) && (tkNext T k).2.2 == s)) := rfl
  clear h
  generalize tkNext T k = t at *
  go_enter Tryz.func118, Tryz.ntmps118
  go_wp2_with (fail)
  refine HA.out.mono ?_
  rintro e w1 ⟨rfl, hb1⟩
  have HB := Lib.hid hb1
  clear hb1
  have HS : Hid ((t.2.2.toList == s.toList) = (t.2.2 == s)) := by
    unfold Hid
    rw [Bool.eq_iff_iff, bytes_eq, beq_iff_eq]
  go_wp2_with (fail)
  all_goals (
    go_ret
    refine ⟨?_, HB.out.alloc HB.out.size _⟩
    rw [HT.out]
    first
      | exact ret_bool (by rw [HS.out]; simp [*])
      | exact ret_bool (by simp [*]))
theorem tkIs_lt {k : Nat} {s : Txt} (h : tkIs T k s = true) : k < T.length := by
  apply Decidable.byContradiction
  intro hk
  unfold tkIs at h
  rw [tkNext_ge hk] at h
  simp at h
theorem kind_lt {k : Nat} (h : (tkNext T k).1 ≠ 0) : k < T.length := by
  apply Decidable.byContradiction
  intro hk
  rw [tkNext_ge hk] at h
  simp at h
theorem Rdr.len (h : Rdr w B T E tv k dp ns) : T.length ≤ 9223372036854775807 := by
  obtain ⟨_, _, _, _, _, h1, h2, _⟩ := h.open'
  omega
set_option maxHeartbeats 1000000 in
set_option maxRecDepth 100000 in
theorem eat_yes (h : Rdr w B T E tv k dp ns) (s : Txt) (hs : tkIs T k s = true) : Calls Tryz.prog 91 #[.pointer (some ⟨B, 0, none⟩), .string s] w fun e w' => e = .returned (.bool true) ∧ Aside1 B w w' ∧ Rdr w' B T E tv (k + 1) dp ns := by
  have HI := Lib.hid (is_calls h s)
  rw [hs] at HI
  have hk := tkIs_lt hs
  have hl := h.len
  have hw : (k : Int) + 1 ≤ 9223372036854775807 := by omega
  have H := Lib.hid h
  clear h hs
  go_enter Tryz.func91, Tryz.ntmps91
  go_wp2_with (fail)
  refine HI.out.mono ?_
  rintro e w1 ⟨rfl, hb1⟩
  have H1 := Lib.hid (H.out.below hb1)
  have HB := Lib.hid hb1
  have c1 := H1.out.c1
  have f1 := H1.out.fz 1
  clear hb1
  go_wp2_with (fail)
  go_ret
  exact ⟨rfl, (aside_below HB.out).trans (aside_set _ _), H1.out.setK (k + 1)⟩
set_option maxHeartbeats 1000000 in
set_option maxRecDepth 100000 in
theorem eat_no (h : Rdr w B T E tv k dp ns) (s : Txt) (hs : tkIs T k s = false) : Calls Tryz.prog 91 #[.pointer (some ⟨B, 0, none⟩), .string s] w fun e w' => e = .returned (.bool false) ∧ Aside1 B w w' ∧ Rdr w' B T E tv k dp ns := by
  have HI := Lib.hid (is_calls h s)
  rw [hs] at HI
  have H := Lib.hid h
  clear h hs
  go_enter Tryz.func91, Tryz.ntmps91
  go_wp2_with (fail)
  refine HI.out.mono ?_
  rintro e w1 ⟨rfl, hb1⟩
  have H1 := Lib.hid (H.out.below hb1)
  have HB := Lib.hid hb1
  clear hb1
  go_wp2_with (fail)
  go_ret
  exact ⟨rfl, aside_below HB.out, H1.out⟩
set_option maxHeartbeats 1000000 in
set_option maxRecDepth 100000 in
theorem must_calls (h : Rdr w B T E tv k dp ns) (s : Txt) : Calls Tryz.prog 90 #[.pointer (some ⟨B, 0, none⟩), .string s] w (Does w B T E tv dp ns (fun _ _ v => v = .tuple #[]) (mustP T E s k)) := by
  cases hs : tkIs T k s with
  | true =>
    have HI := Lib.hid (eat_yes h s hs)
    have HP : Hid (mustP T E s k = .ok () (k + 1)) := by unfold Hid mustP; rw [if_pos hs]
    clear h hs
    go_enter Tryz.func90, Tryz.ntmps90
    go_wp2_with (fail)
    refine HI.out.mono ?_
    rintro e w1 ⟨rfl, ha, hr⟩
    have HA := Lib.hid ha
    have HR := Lib.hid hr
    clear ha hr
    go_wp2_with (fail)
    refine bodyPost_ret (results_none rfl _ _ _) rfl ?_
    rw [HP.out]
    exact ⟨HA.out, _, rfl, HR.out, rfl⟩
  | false =>
    have HI := Lib.hid (eat_no h s hs)
    have HP : Hid (mustP T E s k = failP T E 1 k) := by unfold Hid mustP; rw [if_neg (by simp [hs])]
    clear h hs
    go_enter Tryz.func90, Tryz.ntmps90
    go_wp2_with (fail)
    refine HI.out.mono ?_
    rintro e w1 ⟨rfl, ha, hr⟩
    have HA := Lib.hid ha
    have HF := Lib.hid (fail_calls hr 1)
    have HR := Lib.hid hr
    clear ha hr
    go_wp2_with (fail)
    refine HF.out.mono ?_
    rintro e w2 ⟨rfl, hb2⟩
    have HB := Lib.hid (HA.out.trans (aside_below hb2))
    have HLF := Lib.hid (HR.out.below hb2).left
    clear hb2
    go_wp2_with (fail)
    rw [HP.out]
    exact ⟨rfl, HB.out, rfl, HLF.out⟩
set_option maxHeartbeats 1000000 in
set_option maxRecDepth 100000 in
theorem nameP_calls (h : Rdr w B T E tv k dp ns) : Calls Tryz.prog 94 #[.pointer (some ⟨B, 0, none⟩)] w (Does w B T E tv dp ns (fun _ x v => v = .string x) (nameP T E k)) := by
  have HI := Lib.hid (next_calls h)
  have H := Lib.hid h
  have hl := h.len
  by_cases hs : (tkNext T k).1 = 1
  · have HP : Hid (nameP T E k = .ok (tkNext T k).2.2 (k + 1)) := by unfold Hid nameP; rw [if_pos hs]
    have hk : k < T.length := kind_lt (by omega)
    have hw : (k : Int) + 1 ≤ 9223372036854775807 := by omega
    generalize tkNext T k = t at *
    clear h
    go_enter Tryz.func94, Tryz.ntmps94
    go_wp2_with (fail)
    refine HI.out.mono ?_
    rintro e w1 ⟨rfl, hb1⟩
    obtain ⟨W2, eW⟩ : ∃ W2, w1.alloc (.cells #[.int .i64 1, .int .i64 t.2.1, .string t.2.2] 93) = W2 := ⟨_, rfl⟩
    obtain ⟨z2, hW, m1⟩ := boxes1 eW
    have j0 := m1 0
    have j2 := m1 2
    simp only [List.getElem?_toArray, List.getElem?_cons_zero, List.getElem?_cons_succ] at j0 j2
    have hb2 := hb1.trans (hW.mono hb1.size)
    have H2 := Lib.hid (H.out.below hb2)
    have c1 := H2.out.c1
    have f1 := H2.out.fz 1
    have hne : w1.heap.size ≠ B := by have := H.out.lt; have := hb1.size; omega
    have jj2 : (W2.setCell ⟨B, 1, none⟩ (.int .i64 ((k : Int) + 1))).cell? ⟨w1.heap.size, 2, none⟩ = some (.string t.2.2) := by rw [World.cell?_setCell_other _ _ _ _ (by simp [hne])]; exact j2
    have HA := Lib.hid (aside_below (B := B) hb2)
    clear hb1 hb2 hW z2 m1 hne
    rw [hs]
    go_wp2_with (fail)
    go_ret
    rw [HP.out]
    exact ⟨HA.out.trans (aside_set _ _), _, rfl, H2.out.setK (k + 1), rfl⟩
  · have HP : Hid (nameP T E k = failP T E 1 k) := by unfold Hid nameP; rw [if_neg hs]
    generalize tkNext T k = t at *
    clear h
    go_enter Tryz.func94, Tryz.ntmps94
    go_wp2_with (fail)
    refine HI.out.mono ?_
    rintro e w1 ⟨rfl, hb1⟩
    obtain ⟨W2, eW⟩ : ∃ W2, w1.alloc (.cells #[.int .i64 t.1, .int .i64 t.2.1, .string t.2.2] 93) = W2 := ⟨_, rfl⟩
    obtain ⟨z2, hW, m1⟩ := boxes1 eW
    have j0 := m1 0
    simp only [List.getElem?_toArray, List.getElem?_cons_zero, List.getElem?_cons_succ] at j0
    have hb2 := hb1.trans (hW.mono hb1.size)
    have HF := Lib.hid (fail_calls (H.out.below hb2) 1)
    have HR := Lib.hid (H.out.below hb2)
    have HA := Lib.hid (aside_below (B := B) hb2)
    clear hb1 hb2 hW z2 m1
    go_wp2_with (fail)
    refine HF.out.mono ?_
    rintro e w3 ⟨rfl, hb3⟩
    have HB := Lib.hid (HA.out.trans (aside_below hb3))
    have HLF := Lib.hid (HR.out.below hb3).left
    clear hb3
    go_wp2_with (fail)
    rw [HP.out]
    exact ⟨rfl, HB.out, rfl, HLF.out⟩
set_option maxHeartbeats 1000000 in
set_option maxRecDepth 100000 in
theorem into_calls4 (h : Rdr w B T E tv k dp ns) (hn : ns ≤ 12) : Calls Tryz.prog 115 #[.pointer (some ⟨B, 0, none⟩), .pointer (some ⟨B, 4, none⟩)] w fun e w' => Aside1 B w w' ∧ if ns < 12 then e = .returned (.tuple #[]) ∧ Rdr w' B T E tv k dp (ns + 1) else e = .panicked [{ v := stopV 2 (tkAt T E k), recovered := false }] ∧ Left w' B E tv := by
  have c4 := h.c4
  have f4 := h.fz 4
  have H1 := Lib.hid (h.setN (ns + 1))
  have d4 := H1.out.c4
  have hns : ((ns + 1 : Nat) : Int) = (ns : Int) + 1 := by omega
  rw [hns] at d4 H1
  by_cases hs : ns < 12
  · have hs' : ¬ (12 : Int) < (ns : Int) + 1 := by omega
    clear h hns
    go_enter Tryz.func115, Tryz.ntmps115
    go_wp2_with (fail)
    go_end0
    exact ⟨aside_set _ _, by first | exact ⟨rfl, H1.out⟩ | (rw [if_pos hs]; exact ⟨rfl, H1.out⟩)⟩
  · have hs' : (12 : Int) < (ns : Int) + 1 := by omega
    have HF := Lib.hid (fail_calls H1.out 2)
    clear h hns
    go_enter Tryz.func115, Tryz.ntmps115
    go_wp2_with (fail)
    refine HF.out.mono ?_
    rintro e w3 ⟨rfl, hb3⟩
    have HB := Lib.hid ((aside_set (B := B) (w := w) 4 (.int .i64 ((ns : Int) + 1))).trans (aside_below hb3))
    have HLF := Lib.hid (H1.out.below hb3).left
    clear hb3
    go_wp2_with (fail)
    exact ⟨rfl, HB.out, by first | exact ⟨rfl, HLF.out⟩ | (rw [if_neg hs]; exact ⟨rfl, HLF.out⟩)⟩
end
end Go.Proofs.YtfigfefpejpboaaGreatDoor
namespace Go.Proofs.YtfigfefpejpboaaGreatDoor
open Go.RowKit
set_option linter.unusedVariables false
set_option linter.unusedSimpArgs false

theorem own_aside {w w' : World} {B base : Nat} {e : TypeId} {size : Nat} {v : Value} {n : Nat} {xs : List Value} (h : w.ownsRow base e size v n xs) (hB : B < base) (ha : Aside1 B w w') : w'.ownsRow base e size v n xs :=
  h.kept ha (by
    cases hv : v.ownBlock with
    | none => exact .inl rfl
    | some g =>
      refine .inr fun e => ?_
      have := (h.lt g hv).1
      simp at e
      omega)
theorem own_hide {w : World} {p : Nat → Bool} {base : Nat} {e : TypeId} {size : Nat} {v : Value} {n : Nat} {xs : List Value} (h : w.ownsRow base e size v n xs) (hp : ∀ g, base ≤ g → p g = false) : (hide p w).ownsRow base e size v n xs := by
  refine ⟨h.1, ?_⟩
  rcases h.2 with h2 | ⟨g, cap, cur, e0, e1, e2, e3⟩
  · exact .inl h2
  · refine .inr ⟨g, cap, cur, e0, e1, ?_, e3⟩
    unfold hide
    simp [Array.getElem?_mapIdx, e2, hp g e1]
/-- What a list's elements lie in: nothing old, and not the list's own row. -/
def inList (n : Nat) (lv : Value) : Nat → Bool := fun b => decide (b < n) || (lv.ownBlock == some b)
/-- What stands in the loop of a list. -/
structure LI {α : Type} (Ec : Enc α) (ks : Nat) (et : TypeId) (w wo : World) (B : Nat) (T : List Tok) (E : Int) (tv : Value) (dp ns : Nat) (lv : Value) (xs : List α) (k : Nat) : Prop where
  rdr : Rdr wo B T E tv k dp ns
  aside : Aside1 B w wo
  own : ∃ vals, wo.ownsRow w.heap.size et ks lv xs.length vals ∧ Rows Ec ks (hide (inList w.heap.size lv) wo) xs vals
section
variable {α : Type} {Ec : Enc α} {ks : Nat} {et : TypeId} {w wo wn : World} {B : Nat} {T : List Tok} {E : Int} {tv : Value} {dp ns : Nat} {lv : Value} {xs : List α} {k k' : Nat}
theorem LI.step (hE : Stays Ec) (hB : B < w.heap.size) (h : LI Ec ks et w wo B T E tv dp ns lv xs k) (ha : Aside1 B wo wn) (hr : Rdr wn B T E tv k' dp ns) : LI Ec ks et w wn B T E tv dp ns lv xs k' := by
  obtain ⟨vals, h1, h2⟩ := h.own
  refine ⟨hr, h.aside.trans ha, vals, own_aside h1 hB ha, Rows.stays hE (keeps_hide ha.size fun b hb hp => ⟨hp, ha.block b hb (fun e => ?_)⟩) h2⟩
  simp [inList] at e hp
  omega
theorem LI.below (hE : Stays Ec) (hB : B < w.heap.size) (h : LI Ec ks et w wo B T E tv dp ns lv xs k) (hb : Below wo.heap.size wo wn) : LI Ec ks et w wn B T E tv dp ns lv xs k :=
  h.step hE hB (aside_below hb) (h.rdr.below hb)
theorem LI.done (h : LI Ec ks et w wo B T E tv dp ns lv xs k) (hE : Stays Ec) : SliceOf Ec ks (since w.heap.size wo) xs lv := by
  obtain ⟨vals, h1, h2⟩ := h.own
  refine SliceOf.of_rows (own_hide h1 fun g hg => by simp; omega) (Rows.stays hE (keeps_hide (Nat.le_refl _) fun b hb hp => ⟨?_, rfl⟩) h2)
  simp [inList] at hp ⊢
  omega
theorem LI.slice (h : LI Ec ks et w wo B T E tv dp ns lv xs k) : ∃ p c, lv = .slice p xs.length c := by
  obtain ⟨vals, h1, _⟩ := h.own
  rcases h1.2 with ⟨rfl, e⟩ | ⟨g, cap, cur, rfl, _⟩
  · exact ⟨none, 0, by rw [e]⟩
  · exact ⟨_, _, rfl⟩
/-- One more is laid at its end. -/
theorem LI.push (hE : Stays Ec) (hB : B < w.heap.size) (ht : Toks (mask B w) T tv) (htab : Tab (mask B w)) (h : LI Ec ks et w wo B T E tv dp ns lv xs k) {vals us : List Value} {w5 : World} {v5 : Value} {x : α} {n1 : Nat}
    (hrows : Rows Ec ks (hide (inList w.heap.size lv) wo) xs vals) (hx : Ec (since n1 wo) x us) (hus : us.length = ks) (hn1 : w.heap.size ≤ n1) (hn2 : ∀ g, lv.ownBlock = some g → w.heap.size ≤ g ∧ g < n1)
    (hown : w5.ownsRow w.heap.size et ks v5 (xs.length + 1) (vals ++ us)) (hg : wo.grownBy w5 lv.ownBlock) (hv : v5.ownBlock = lv.ownBlock ∨ v5.ownBlock = some wo.heap.size) :
    LI Ec ks et w w5 B T E tv dp ns v5 (xs ++ [x]) k := by
  have hblk : w5.heap[B]? = wo.heap[B]? := hg.block B h.rdr.lt (fun e => by have := (hn2 B e.symm).1; omega)
  have hne : ∀ b, b < wo.heap.size → inList w.heap.size lv b = false → inList w.heap.size v5 b = false ∧ w5.heap[b]? = wo.heap[b]? := fun b hb hp => by
    simp [inList] at hp
    refine ⟨?_, hg.block b hb (fun e => hp.2 e.symm)⟩
    simp only [inList, Bool.or_eq_false_iff, decide_eq_false_iff_not, Nat.not_lt, beq_eq_false_iff_ne, ne_eq]
    refine ⟨hp.1, fun e => ?_⟩
    rcases hv with hv | hv
    · rw [hv] at e; exact hp.2 e
    · rw [hv] at e; simp at e; omega
  have hk : Keeps (hide (inList w.heap.size lv) wo) (hide (inList w.heap.size v5) w5) := keeps_hide hg.size hne
  have hk2 : Keeps (since n1 wo) (hide (inList w.heap.size lv) wo) := keeps_hide (Nat.le_refl _) fun b hb hp => ⟨by
    simp only [inList, Bool.or_eq_false_iff, decide_eq_false_iff_not, Nat.not_lt, beq_eq_false_iff_ne, ne_eq]
    simp at hp
    exact ⟨by omega, fun e => by have := (hn2 b e).2; omega⟩, rfl⟩
  have has : Aside1 B w w5 := ⟨hg.os.trans h.aside.os, hg.tape.trans h.aside.tape, hg.output.trans h.aside.output, Nat.le_trans h.aside.size hg.size, fun i hi hne =>
    (hg.block i (Nat.lt_of_lt_of_le hi h.aside.size) (fun e => by have := (hn2 i e.symm).1; omega)).trans (h.aside.block i hi hne)⟩
  exact ⟨⟨by rw [hblk]; exact h.rdr.blk, ht.stays has.keeps, htab.aside has⟩, has, vals ++ us, by simpa using hown, Rows.append (Rows.stays hE hk hrows) (.one (hE _ _ _ _ (hk2.trans hk) hx) hus)⟩
/-- The first one. -/
theorem LI.first (hE : Stays Ec) {w1 : World} (hr : Rdr w1 B T E tv k dp ns) (ha : Aside1 B w w1) {x : α} {us : List Value} (hx : Ec (since w.heap.size w1) x us) (hus : us.length = ks) (hks : 0 < ks) :
    LI Ec ks et w (w1.alloc (.cells us.toArray et)) B T E tv dp ns (.slice (some ⟨w1.heap.size, 0, none⟩) 1 1) [x] k := by
  have hb : Below w1.heap.size w1 (w1.alloc (.cells us.toArray et)) := (Below.refl _ _).alloc (Nat.le_refl _) _
  refine ⟨hr.below hb, ha.trans (aside_below hb), us, ?_, .one (hE _ _ _ _ (keeps_hide hb.size fun b hb1 hp => ⟨?_, hb.block b hb1⟩) hx) hus⟩
  · have := World.ownsRow_lit (base := w.heap.size) (e := et) (size := ks) w1 us.toArray 1 ha.size (by unfold maxLen; omega) (by simp [hus])
    simpa using this
  · simp [inList, Value.ownBlock] at hp ⊢
    omega
end
/-- A policy as one value. -/
def PolIs (w : World) (x : Pol) (v : Value) : Prop := ∃ vr, v = .agg #[.string x.1, vr] ∧ Strs w x.2 vr
theorem PolIs.stays {w w' : World} (hk : Keeps w w') {x : Pol} {v : Value} (h : PolIs w x v) : PolIs w' x v := by
  obtain ⟨vr, e, h1⟩ := h
  exact ⟨vr, e, h1.stays hk⟩
theorem Tryz.info_policyP : (Tryz.prog.info? 62).map (fun i => (i.zero, i.size, i.bytes)) = some (some (.agg #[.string ⟨#[]⟩, .slice none 0 0]), 2, 40) := by kernel_rfl
theorem Tryz.info_stringP : (Tryz.prog.info? 9).map (fun i => (i.zero, i.size, i.bytes)) = some (some (.string ⟨#[]⟩), 1, 16) := by kernel_rfl
theorem Tryz.info_exprP : (Tryz.prog.info? 26).map (fun i => (i.zero, i.size, i.bytes)) = some (some (.agg #[.int .i64 0, .int .i64 0, .int .i64 0, .int .i64 0, .string ⟨#[]⟩, .slice none 0 0, .slice none 0 0]), 7, 96) := by kernel_rfl
end Go.Proofs.YtfigfefpejpboaaGreatDoor
namespace Go.Proofs.YtfigfefpejpboaaGreatDoor
open Go.RowKit Go.Maps
set_option linter.unusedVariables false
set_option linter.unusedSimpArgs false

set_option maxHeartbeats 4000000 in
set_option maxRecDepth 100000 in
theorem listStr_calls (gb : Nat) {w : World} {B : Nat} {T : List Tok} {E : Int} {tv : Value} {k0 dp ns : Nat} (h : Rdr w B T E tv k0 dp ns) (one : Nat → Rs Txt) (most : Nat) (sign : Txt) (hm0 : 0 < most) (hm : most ≤ 200)
    (hone : ∀ (W : World) (k : Nat), Aside1 B w W → Rdr W B T E tv k dp ns → Calls Tryz.prog 94 #[.pointer (some ⟨B, 0, none⟩)] W (Does W B T E tv dp ns (fun _ x v => v = .string x) (one k))) :
    Calls Tryz.prog 95 #[.pointer (some ⟨B, 0, none⟩), .int .i64 most, .string sign, .func (.func 94) #[.pointer (some ⟨B, 0, none⟩)] #[]] w (Does w B T E tv dp ns (fun W l v => SliceOf txt 1 W l v) (listP T E one most sign k0)) := by
  obtain ⟨t0, hi, hz0, hz1, hz2⟩ := info_parts Tryz.info_stringP
  have eg : ∀ args w, (callFunc 94 args).run Tryz.prog w = .ok (.enter 94 args) w := enters_at Tryz.func94 (by kernel_rfl) rfl
  have HB : Hid (B < w.heap.size) := h.lt
  have HT := Lib.hid h.toks
  have HTAB := Lib.hid h.tab
  have HONE := Lib.hid hone
  have hst : Stays txt := One.stays _
  have HST := Lib.hid hst
  have h1 := hone w k0 (Aside1.refl _ _) h
  have HP : Hid (listP T E one most sign k0 = (one k0).bind fun x k' => listGo T E one most sign most [x] k') := rfl
  clear hone h hst
  cases hr : one k0 with
  | bad c a =>
    rw [hr] at h1 HP
    have H1 := Lib.hid h1
    clear h1 hr
    go_enter Tryz.func95, Tryz.ntmps95
    go_wp2_with (fail)
    refine H1.out.mono ?_
    rintro e w1 ⟨ha, rfl, hlf⟩
    have HA := Lib.hid ha
    have HLF := Lib.hid hlf
    clear hlf
    clear ha
    go_wp2_with (fail)
    rw [HP.out]
    exact ⟨rfl, HA.out, rfl, HLF.out⟩
  | ok x k1 =>
    rw [hr] at h1 HP
    have H1 := Lib.hid h1
    clear h1 hr
    go_enter Tryz.func95, Tryz.ntmps95
    go_wp2_with (fail)
    refine H1.out.mono ?_
    rintro e w1 ⟨ha, v1, rfl, hr1, hx⟩
    obtain rfl := hx
    have HXE : Hid (txt (since w.heap.size w1) x [.string x]) := rfl
    have HL := Lib.hid (LI.first (ks := 1) (et := 9) HST.out hr1 ha HXE.out rfl (by decide))
    obtain ⟨W2, eW⟩ : ∃ W2, w1.alloc (.cells #[.string x] 9) = W2 := ⟨_, rfl⟩
    have HL2 : Hid (LI txt 1 9 w W2 B T E tv dp ns (.slice (some ⟨w1.heap.size, 0, none⟩) 1 1) [x] k1) := by rw [← eW]; exact HL.out
    clear ha hr1 HL
    go_wp2_with (fail)
    go_loopg [9] most (fun f lv ws => ∃ (xs : List Txt) (k : Nat) (wo : World) (vv : Value), vv = lv ∧ wo = ws ∧ Hid (0 < f ∧ xs.length + f = most + 1) ∧ Hid (listP T E one most sign k0 = listGo T E one most sign f xs k) ∧ Hid (LI txt 1 9 w wo B T E tv dp ns vv xs k))
    case atStart => exact ⟨[x], k1, _, _, rfl, rfl, ⟨hm0, by simp; omega⟩, HP.out, HL2.out⟩
    case round =>
      clear HL2 H1 HP HXE
      obtain ⟨xs, k, wo, vv, rfl, rfl, HF, HG, HLI⟩ := hrel
      obtain ⟨p9, c9, rfl⟩ := HLI.out.slice
      obtain ⟨f, rfl⟩ : ∃ f, gk = f + 1 := ⟨gk - 1, by have := HF.out; omega⟩
      have HIS := Lib.hid (is_calls HLI.out.rdr sign)
      cases hs : tkIs T k sign with
      | false =>
        rw [hs] at HIS
        have HE : Hid (listP T E one most sign k0 = .ok xs k) := by
          unfold Hid; rw [HG.out]; unfold listGo; rw [if_neg (by simp [hs])]
        clear hs
        go_wp2_with (fail)
        refine HIS.out.mono ?_
        rintro e w3 ⟨rfl, hb3⟩
        have HL3 := Lib.hid (HLI.out.below HST.out HB.out hb3)
        clear hb3
        go_wp2_with (fail)
        go_ret
        rw [HE.out]
        exact ⟨HL3.out.aside, _, rfl, HL3.out.rdr, HL3.out.done HST.out⟩
      | true =>
        rw [hs] at HIS
        have HGO : Hid (listGo T E one most sign (f + 1) xs k = if xs.length = most then failP T E 2 k else (one (k + 1)).bind fun y k' => listGo T E one most sign f (xs ++ [y]) k') := by
          unfold Hid; rw [listGo, if_pos hs]
        have HMU : Hid (mustP T E sign k = .ok () (k + 1)) := by unfold Hid mustP; rw [if_pos hs]
        clear hs
        by_cases hml : xs.length = most
        · have HE : Hid (listP T E one most sign k0 = failP T E 2 k) := by unfold Hid; rw [HG.out, HGO.out, if_pos hml]
          have hml' : (xs.length : Int) = (most : Int) := by omega
          clear hml
          go_wp2_with (fail)
          refine HIS.out.mono ?_
          rintro e w3 ⟨rfl, hb3⟩
          have HL3 := Lib.hid (HLI.out.below HST.out HB.out hb3)
          have HFA := Lib.hid (fail_calls HL3.out.rdr 2)
          clear hb3
          go_wp2_with (fail)
          refine HFA.out.mono ?_
          rintro e w4 ⟨rfl, hb4⟩
          have HA4 := Lib.hid (HL3.out.aside.trans (aside_below hb4))
          have HLF := Lib.hid (HL3.out.rdr.below hb4).left
          clear hb4
          go_wp2_with (fail)
          rw [HE.out]
          exact ⟨rfl, HA4.out, rfl, HLF.out⟩
        · have HNX : Hid (listP T E one most sign k0 = (one (k + 1)).bind fun y k' => listGo T E one most sign f (xs ++ [y]) k') := by unfold Hid; rw [HG.out, HGO.out, if_neg hml]
          have hml' : ¬ (xs.length : Int) = (most : Int) := by omega
          have HLT : Hid (xs.length < most) := by have := HF.out; unfold Hid; omega
          clear hml
          go_wp2_with (fail)
          refine HIS.out.mono ?_
          rintro e w3 ⟨rfl, hb3⟩
          have HL3 := Lib.hid (HLI.out.below HST.out HB.out hb3)
          have HMC := Lib.hid (must_calls HL3.out.rdr sign)
          rw [HMU.out] at HMC
          clear hb3
          go_wp2_with (fail)
          refine HMC.out.mono ?_
          rintro e w4 ⟨ha4, v4, rfl, hr4, rfl⟩
          have HL4 := Lib.hid (HL3.out.step HST.out HB.out ha4 hr4)
          have hcall := HONE.out w4 (k + 1) HL4.out.aside hr4
          clear ha4 hr4
          cases hry : one (k + 1) with
          | bad c a =>
            rw [hry] at hcall HNX
            have HCA := Lib.hid hcall
            clear hcall hry
            go_wp2_with (fail)
            refine HCA.out.mono ?_
            rintro e w5 ⟨ha5, rfl, hlf⟩
            have HLF := Lib.hid hlf
            clear hlf
            have HA5 := Lib.hid (HL4.out.aside.trans ha5)
            clear ha5
            go_wp2_with (fail)
            rw [HNX.out]
            exact ⟨rfl, HA5.out, rfl, HLF.out⟩
          | ok y k2 =>
            rw [hry] at hcall HNX
            have HCA := Lib.hid hcall
            clear hcall hry
            go_wp2_with (fail)
            refine HCA.out.mono ?_
            rintro e w5 ⟨ha5, v5, rfl, hr5, hx⟩
            obtain rfl := hx
            have HXE : Hid (txt (since w4.heap.size w5) y [.string y]) := rfl
            have HL5 := Lib.hid (HL4.out.step HST.out HB.out ha5 hr5)
            have HSZ : Hid (w.heap.size ≤ w4.heap.size) := HL4.out.aside.size
            have HOW4 : Hid (∀ g, (Value.slice p9 xs.length c9).ownBlock = some g → w.heap.size ≤ g ∧ g < w4.heap.size) := fun g hg => by
              obtain ⟨vals, q1, _⟩ := HL4.out.own
              exact q1.lt g hg
            obtain ⟨vals, hown5, hrows5⟩ := HL5.out.own
            have HROWS := Lib.hid hrows5
            have hsz5 := HL5.out.aside.size
            have hlm := HLT.out
            clear ha5 hr5 hrows5
            obtain ⟨W6, eW6⟩ : ∃ W6, w5.alloc (.cells #[.string y] 9) = W6 := ⟨_, rfl⟩
            obtain ⟨z6, hW6, m6⟩ := boxes1 eW6
            have hown6 : W6.ownsRow w.heap.size 9 1 (.slice p9 xs.length c9) xs.length vals := own_below hown5 hW6
            have HL6 := Lib.hid (HL5.out.below HST.out HB.out hW6)
            have HROW6 : Hid (Rows txt 1 (hide (inList w.heap.size (.slice p9 xs.length c9)) W6) xs vals) := Rows.stays HST.out (keeps_hide hW6.size fun b hb hp => ⟨hp, hW6.block b hb⟩) HROWS.out
            have HXE6 : Hid (txt (since w4.heap.size W6) y [.string y]) := HST.out _ _ _ _ (keeps_hide hW6.size fun b hb hp => ⟨hp, hW6.block b hb⟩) HXE.out
            have hsz6 : w.heap.size ≤ W6.heap.size := by omega
            clear hown5 z6 hW6
            go_wp2_with (at_builtin; refine wpList_append_own_at _ rfl _ _ 60 rfl w.heap.size 9 t0 (.string ⟨#[]⟩) 1 16 Tryz.underlying60 hi hz0 hz1 hz2 rfl (by decide) _ _ _ rfl hown6 ⟨w5.heap.size, 0, none⟩ 1 1 [.string y] rfl rfl ?c1 ?c2 ?c3 ?c4 ?c5 ?_)
            case c1 =>
              intro i u hj
              rw [Go.WideShapes.add_plain, Nat.zero_add, m6 i]
              simpa using hj
            case c2 => intro u hu; simp at hu; first | (subst hu; rfl) | (rcases hu with hu | hu <;> subst hu <;> rfl) | (rcases hu with hu | hu | hu | hu | hu | hu | hu <;> subst hu <;> rfl)
            case c3 => unfold maxLen; omega
            case c4 => omega
            case c5 => exact hsz6
            · intro v7 w7 hown7 hg7 _ hb7
              have HN : Hid (LI txt 1 9 w w7 B T E tv dp ns v7 (xs ++ [y]) k2) := HL6.out.push HST.out HB.out HT.out HTAB.out HROW6.out HXE6.out rfl HSZ.out HOW4.out hown7 hg7 hb7
              clear hown7 hg7 hb7 hown6 m6
              go_wp2_with (fail)
              go_roundg f
              case measure => omega
              case rel => exact ⟨xs ++ [y], k2, _, _, rfl, rfl, ⟨by have := HF.out; have := HLT.out; omega, by have := HF.out; simp; omega⟩, HNX.out, HN.out⟩

set_option maxHeartbeats 4000000 in
set_option maxRecDepth 100000 in
theorem listPol_calls (gb : Nat) {w : World} {B : Nat} {T : List Tok} {E : Int} {tv : Value} {k0 dp ns : Nat} (h : Rdr w B T E tv k0 dp ns) (one : Nat → Rs Pol) (most : Nat) (sign : Txt) (hm0 : 0 < most) (hm : most ≤ 200)
    (hone : ∀ (W : World) (k : Nat), Aside1 B w W → Rdr W B T E tv k dp ns → Calls Tryz.prog 93 #[.pointer (some ⟨gb, 0, none⟩)] W (Does W B T E tv dp ns PolIs (one k))) :
    Calls Tryz.prog 92 #[.pointer (some ⟨B, 0, none⟩), .int .i64 most, .string sign, .func (.func 93) #[] #[.pointer (some ⟨gb, 0, none⟩)]] w (Does w B T E tv dp ns (fun W l v => SliceOf pol 2 W l v) (listP T E one most sign k0)) := by
  obtain ⟨t0, hi, hz0, hz1, hz2⟩ := info_parts Tryz.info_policyP
  have eg : ∀ args w, (callFunc 93 args).run Tryz.prog w = .ok (.enter 93 args) w := enters_at Tryz.func93 (by kernel_rfl) rfl
  have HB : Hid (B < w.heap.size) := h.lt
  have HT := Lib.hid h.toks
  have HTAB := Lib.hid h.tab
  have HONE := Lib.hid hone
  have hst : Stays pol := pol_stays
  have HST := Lib.hid hst
  have h1 := hone w k0 (Aside1.refl _ _) h
  have HP : Hid (listP T E one most sign k0 = (one k0).bind fun x k' => listGo T E one most sign most [x] k') := rfl
  clear hone h hst
  cases hr : one k0 with
  | bad c a =>
    rw [hr] at h1 HP
    have H1 := Lib.hid h1
    clear h1 hr
    go_enter Tryz.func92, Tryz.ntmps92
    go_wp2_with (fail)
    refine H1.out.mono ?_
    rintro e w1 ⟨ha, rfl, hlf⟩
    have HA := Lib.hid ha
    have HLF := Lib.hid hlf
    clear hlf
    clear ha
    go_wp2_with (fail)
    rw [HP.out]
    exact ⟨rfl, HA.out, rfl, HLF.out⟩
  | ok x k1 =>
    rw [hr] at h1 HP
    have H1 := Lib.hid h1
    clear h1 hr
    go_enter Tryz.func92, Tryz.ntmps92
    go_wp2_with (fail)
    refine H1.out.mono ?_
    rintro e w1 ⟨ha, v1, rfl, hr1, hx⟩
    obtain ⟨vr, rfl, hvr⟩ := hx
    obtain ⟨_, _, cr, pr, rfl, _⟩ := hvr.cells
    have HXE : Hid (pol (since w.heap.size w1) x [.string x.1, .slice pr x.2.length cr]) := ⟨[.string x.1], [.slice pr x.2.length cr], rfl, rfl, ⟨_, rfl, hvr⟩⟩
    clear hvr
    have HL := Lib.hid (LI.first (ks := 2) (et := 62) HST.out hr1 ha HXE.out rfl (by decide))
    obtain ⟨W2, eW⟩ : ∃ W2, w1.alloc (.cells #[.string x.1, .slice pr x.2.length cr] 62) = W2 := ⟨_, rfl⟩
    have HL2 : Hid (LI pol 2 62 w W2 B T E tv dp ns (.slice (some ⟨w1.heap.size, 0, none⟩) 1 1) [x] k1) := by rw [← eW]; exact HL.out
    clear ha hr1 HL
    go_wp2_with (fail)
    go_loopg [9] most (fun f lv ws => ∃ (xs : List Pol) (k : Nat) (wo : World) (vv : Value), vv = lv ∧ wo = ws ∧ Hid (0 < f ∧ xs.length + f = most + 1) ∧ Hid (listP T E one most sign k0 = listGo T E one most sign f xs k) ∧ Hid (LI pol 2 62 w wo B T E tv dp ns vv xs k))
    case atStart => exact ⟨[x], k1, _, _, rfl, rfl, ⟨hm0, by simp; omega⟩, HP.out, HL2.out⟩
    case round =>
      clear HL2 H1 HP HXE
      obtain ⟨xs, k, wo, vv, rfl, rfl, HF, HG, HLI⟩ := hrel
      obtain ⟨p9, c9, rfl⟩ := HLI.out.slice
      obtain ⟨f, rfl⟩ : ∃ f, gk = f + 1 := ⟨gk - 1, by have := HF.out; omega⟩
      have HIS := Lib.hid (is_calls HLI.out.rdr sign)
      cases hs : tkIs T k sign with
      | false =>
        rw [hs] at HIS
        have HE : Hid (listP T E one most sign k0 = .ok xs k) := by
          unfold Hid; rw [HG.out]; unfold listGo; rw [if_neg (by simp [hs])]
        clear hs
        go_wp2_with (fail)
        refine HIS.out.mono ?_
        rintro e w3 ⟨rfl, hb3⟩
        have HL3 := Lib.hid (HLI.out.below HST.out HB.out hb3)
        clear hb3
        go_wp2_with (fail)
        go_ret
        rw [HE.out]
        exact ⟨HL3.out.aside, _, rfl, HL3.out.rdr, HL3.out.done HST.out⟩
      | true =>
        rw [hs] at HIS
        have HGO : Hid (listGo T E one most sign (f + 1) xs k = if xs.length = most then failP T E 2 k else (one (k + 1)).bind fun y k' => listGo T E one most sign f (xs ++ [y]) k') := by
          unfold Hid; rw [listGo, if_pos hs]
        have HMU : Hid (mustP T E sign k = .ok () (k + 1)) := by unfold Hid mustP; rw [if_pos hs]
        clear hs
        by_cases hml : xs.length = most
        · have HE : Hid (listP T E one most sign k0 = failP T E 2 k) := by unfold Hid; rw [HG.out, HGO.out, if_pos hml]
          have hml' : (xs.length : Int) = (most : Int) := by omega
          clear hml
          go_wp2_with (fail)
          refine HIS.out.mono ?_
          rintro e w3 ⟨rfl, hb3⟩
          have HL3 := Lib.hid (HLI.out.below HST.out HB.out hb3)
          have HFA := Lib.hid (fail_calls HL3.out.rdr 2)
          clear hb3
          go_wp2_with (fail)
          refine HFA.out.mono ?_
          rintro e w4 ⟨rfl, hb4⟩
          have HA4 := Lib.hid (HL3.out.aside.trans (aside_below hb4))
          have HLF := Lib.hid (HL3.out.rdr.below hb4).left
          clear hb4
          go_wp2_with (fail)
          rw [HE.out]
          exact ⟨rfl, HA4.out, rfl, HLF.out⟩
        · have HNX : Hid (listP T E one most sign k0 = (one (k + 1)).bind fun y k' => listGo T E one most sign f (xs ++ [y]) k') := by unfold Hid; rw [HG.out, HGO.out, if_neg hml]
          have hml' : ¬ (xs.length : Int) = (most : Int) := by omega
          have HLT : Hid (xs.length < most) := by have := HF.out; unfold Hid; omega
          clear hml
          go_wp2_with (fail)
          refine HIS.out.mono ?_
          rintro e w3 ⟨rfl, hb3⟩
          have HL3 := Lib.hid (HLI.out.below HST.out HB.out hb3)
          have HMC := Lib.hid (must_calls HL3.out.rdr sign)
          rw [HMU.out] at HMC
          clear hb3
          go_wp2_with (fail)
          refine HMC.out.mono ?_
          rintro e w4 ⟨ha4, v4, rfl, hr4, rfl⟩
          have HL4 := Lib.hid (HL3.out.step HST.out HB.out ha4 hr4)
          have hcall := HONE.out w4 (k + 1) HL4.out.aside hr4
          clear ha4 hr4
          cases hry : one (k + 1) with
          | bad c a =>
            rw [hry] at hcall HNX
            have HCA := Lib.hid hcall
            clear hcall hry
            go_wp2_with (fail)
            refine HCA.out.mono ?_
            rintro e w5 ⟨ha5, rfl, hlf⟩
            have HLF := Lib.hid hlf
            clear hlf
            have HA5 := Lib.hid (HL4.out.aside.trans ha5)
            clear ha5
            go_wp2_with (fail)
            rw [HNX.out]
            exact ⟨rfl, HA5.out, rfl, HLF.out⟩
          | ok y k2 =>
            rw [hry] at hcall HNX
            have HCA := Lib.hid hcall
            clear hcall hry
            go_wp2_with (fail)
            refine HCA.out.mono ?_
            rintro e w5 ⟨ha5, v5, rfl, hr5, hx⟩
            obtain ⟨vr2, rfl, hvr⟩ := hx
            obtain ⟨_, _, cs, ps, rfl, _⟩ := hvr.cells
            have HXE : Hid (pol (since w4.heap.size w5) y [.string y.1, .slice ps y.2.length cs]) := ⟨[.string y.1], [.slice ps y.2.length cs], rfl, rfl, ⟨_, rfl, hvr⟩⟩
            clear hvr
            have HL5 := Lib.hid (HL4.out.step HST.out HB.out ha5 hr5)
            have HSZ : Hid (w.heap.size ≤ w4.heap.size) := HL4.out.aside.size
            have HOW4 : Hid (∀ g, (Value.slice p9 xs.length c9).ownBlock = some g → w.heap.size ≤ g ∧ g < w4.heap.size) := fun g hg => by
              obtain ⟨vals, q1, _⟩ := HL4.out.own
              exact q1.lt g hg
            obtain ⟨vals, hown5, hrows5⟩ := HL5.out.own
            have HROWS := Lib.hid hrows5
            have hsz5 := HL5.out.aside.size
            have hlm := HLT.out
            clear ha5 hr5 hrows5
            obtain ⟨W6, eW6⟩ : ∃ W6, w5.alloc (.cells #[.string y.1, .slice ps y.2.length cs] 62) = W6 := ⟨_, rfl⟩
            obtain ⟨z6, hW6, m6⟩ := boxes1 eW6
            have hown6 : W6.ownsRow w.heap.size 62 2 (.slice p9 xs.length c9) xs.length vals := own_below hown5 hW6
            have HL6 := Lib.hid (HL5.out.below HST.out HB.out hW6)
            have HROW6 : Hid (Rows pol 2 (hide (inList w.heap.size (.slice p9 xs.length c9)) W6) xs vals) := Rows.stays HST.out (keeps_hide hW6.size fun b hb hp => ⟨hp, hW6.block b hb⟩) HROWS.out
            have HXE6 : Hid (pol (since w4.heap.size W6) y [.string y.1, .slice ps y.2.length cs]) := HST.out _ _ _ _ (keeps_hide hW6.size fun b hb hp => ⟨hp, hW6.block b hb⟩) HXE.out
            have hsz6 : w.heap.size ≤ W6.heap.size := by omega
            clear hown5 z6 hW6
            go_wp2_with (at_builtin; refine wpList_append_own_at _ rfl _ _ 22 rfl w.heap.size 62 t0 (.agg #[.string ⟨#[]⟩, .slice none 0 0]) 2 40 Tryz.underlying22 hi hz0 hz1 hz2 rfl (by decide) _ _ _ rfl hown6 ⟨w5.heap.size, 0, none⟩ 1 1 [.string y.1, .slice ps y.2.length cs] rfl rfl ?c1 ?c2 ?c3 ?c4 ?c5 ?_)
            case c1 =>
              intro i u hj
              rw [Go.WideShapes.add_plain, Nat.zero_add, m6 i]
              simpa using hj
            case c2 => intro u hu; simp at hu; first | (subst hu; rfl) | (rcases hu with hu | hu <;> subst hu <;> rfl) | (rcases hu with hu | hu | hu | hu | hu | hu | hu <;> subst hu <;> rfl)
            case c3 => unfold maxLen; omega
            case c4 => omega
            case c5 => exact hsz6
            · intro v7 w7 hown7 hg7 _ hb7
              have HN : Hid (LI pol 2 62 w w7 B T E tv dp ns v7 (xs ++ [y]) k2) := HL6.out.push HST.out HB.out HT.out HTAB.out HROW6.out HXE6.out rfl HSZ.out HOW4.out hown7 hg7 hb7
              clear hown7 hg7 hb7 hown6 m6
              go_wp2_with (fail)
              go_roundg f
              case measure => omega
              case rel => exact ⟨xs ++ [y], k2, _, _, rfl, rfl, ⟨by have := HF.out; have := HLT.out; omega, by have := HF.out; simp; omega⟩, HNX.out, HN.out⟩

set_option maxHeartbeats 4000000 in
set_option maxRecDepth 100000 in
theorem listEx_calls (gb : Nat) {w : World} {B : Nat} {T : List Tok} {E : Int} {tv : Value} {k0 dp ns : Nat} (h : Rdr w B T E tv k0 dp ns) (one : Nat → Rs Ex) (most : Nat) (sign : Txt) (hm0 : 0 < most) (hm : most ≤ 200)
    (hone : ∀ (W : World) (k : Nat), Aside1 B w W → Rdr W B T E tv k dp ns → Calls Tryz.prog 146 #[.pointer (some ⟨gb, 0, none⟩)] W (Does W B T E tv dp ns ExIs (one k))) :
    Calls Tryz.prog 145 #[.pointer (some ⟨B, 0, none⟩), .int .i64 most, .string sign, .func (.func 146) #[] #[.pointer (some ⟨gb, 0, none⟩)]] w (Does w B T E tv dp ns (fun W l v => SliceOf exE 7 W l v) (listP T E one most sign k0)) := by
  obtain ⟨t0, hi, hz0, hz1, hz2⟩ := info_parts Tryz.info_exprP
  have eg : ∀ args w, (callFunc 146 args).run Tryz.prog w = .ok (.enter 146 args) w := enters_at Tryz.func146 (by kernel_rfl) rfl
  have HB : Hid (B < w.heap.size) := h.lt
  have HT := Lib.hid h.toks
  have HTAB := Lib.hid h.tab
  have HONE := Lib.hid hone
  have hst : Stays exE := exE_stays
  have HST := Lib.hid hst
  have h1 := hone w k0 (Aside1.refl _ _) h
  have HP : Hid (listP T E one most sign k0 = (one k0).bind fun x k' => listGo T E one most sign most [x] k') := rfl
  clear hone h hst
  cases hr : one k0 with
  | bad c a =>
    rw [hr] at h1 HP
    have H1 := Lib.hid h1
    clear h1 hr
    go_enter Tryz.func145, Tryz.ntmps145
    go_wp2_with (fail)
    refine H1.out.mono ?_
    rintro e w1 ⟨ha, rfl, hlf⟩
    have HA := Lib.hid ha
    have HLF := Lib.hid hlf
    clear hlf
    clear ha
    go_wp2_with (fail)
    rw [HP.out]
    exact ⟨rfl, HA.out, rfl, HLF.out⟩
  | ok x k1 =>
    rw [hr] at h1 HP
    have H1 := Lib.hid h1
    clear h1 hr
    go_enter Tryz.func145, Tryz.ntmps145
    go_wp2_with (fail)
    refine H1.out.mono ?_
    rintro e w1 ⟨ha, v1, rfl, hr1, hx⟩
    obtain ⟨vl, va, rfl, hvl, hva⟩ := hx
    have hxe := (show ExIs (since w.heap.size w1) x _ from ⟨vl, va, rfl, hvl, hva⟩).row
    obtain ⟨_, _, e9, hxe⟩ := hxe
    simp only [Value.agg.injEq] at e9
    obtain ⟨rfl, rfl⟩ : _ = vl ∧ _ = va := by simp at e9; exact ⟨e9.1.symm, e9.2.symm⟩
    obtain ⟨pl, cl, rfl, _⟩ := hvl
    obtain ⟨pa, ca, rfl, _⟩ := hva
    have HXE := Lib.hid hxe
    clear hxe e9
    have HL := Lib.hid (LI.first (ks := 7) (et := 26) HST.out hr1 ha HXE.out rfl (by decide))
    obtain ⟨W2, eW⟩ : ∃ W2, w1.alloc (.cells #[.int .i64 x.kind, .int .i64 x.at_, .int .i64 x.num, .int .i64 x.ty, .string x.name, .slice pl x.lab.length cl, .slice pa x.kids.length ca] 26) = W2 := ⟨_, rfl⟩
    have HL2 : Hid (LI exE 7 26 w W2 B T E tv dp ns (.slice (some ⟨w1.heap.size, 0, none⟩) 1 1) [x] k1) := by rw [← eW]; exact HL.out
    clear ha hr1 HL
    go_wp2_with (fail)
    go_loopg [9] most (fun f lv ws => ∃ (xs : List Ex) (k : Nat) (wo : World) (vv : Value), vv = lv ∧ wo = ws ∧ Hid (0 < f ∧ xs.length + f = most + 1) ∧ Hid (listP T E one most sign k0 = listGo T E one most sign f xs k) ∧ Hid (LI exE 7 26 w wo B T E tv dp ns vv xs k))
    case atStart => exact ⟨[x], k1, _, _, rfl, rfl, ⟨hm0, by simp; omega⟩, HP.out, HL2.out⟩
    case round =>
      clear HL2 H1 HP HXE
      obtain ⟨xs, k, wo, vv, rfl, rfl, HF, HG, HLI⟩ := hrel
      obtain ⟨p9, c9, rfl⟩ := HLI.out.slice
      obtain ⟨f, rfl⟩ : ∃ f, gk = f + 1 := ⟨gk - 1, by have := HF.out; omega⟩
      have HIS := Lib.hid (is_calls HLI.out.rdr sign)
      cases hs : tkIs T k sign with
      | false =>
        rw [hs] at HIS
        have HE : Hid (listP T E one most sign k0 = .ok xs k) := by
          unfold Hid; rw [HG.out]; unfold listGo; rw [if_neg (by simp [hs])]
        clear hs
        go_wp2_with (fail)
        refine HIS.out.mono ?_
        rintro e w3 ⟨rfl, hb3⟩
        have HL3 := Lib.hid (HLI.out.below HST.out HB.out hb3)
        clear hb3
        go_wp2_with (fail)
        go_ret
        rw [HE.out]
        exact ⟨HL3.out.aside, _, rfl, HL3.out.rdr, HL3.out.done HST.out⟩
      | true =>
        rw [hs] at HIS
        have HGO : Hid (listGo T E one most sign (f + 1) xs k = if xs.length = most then failP T E 2 k else (one (k + 1)).bind fun y k' => listGo T E one most sign f (xs ++ [y]) k') := by
          unfold Hid; rw [listGo, if_pos hs]
        have HMU : Hid (mustP T E sign k = .ok () (k + 1)) := by unfold Hid mustP; rw [if_pos hs]
        clear hs
        by_cases hml : xs.length = most
        · have HE : Hid (listP T E one most sign k0 = failP T E 2 k) := by unfold Hid; rw [HG.out, HGO.out, if_pos hml]
          have hml' : (xs.length : Int) = (most : Int) := by omega
          clear hml
          go_wp2_with (fail)
          refine HIS.out.mono ?_
          rintro e w3 ⟨rfl, hb3⟩
          have HL3 := Lib.hid (HLI.out.below HST.out HB.out hb3)
          have HFA := Lib.hid (fail_calls HL3.out.rdr 2)
          clear hb3
          go_wp2_with (fail)
          refine HFA.out.mono ?_
          rintro e w4 ⟨rfl, hb4⟩
          have HA4 := Lib.hid (HL3.out.aside.trans (aside_below hb4))
          have HLF := Lib.hid (HL3.out.rdr.below hb4).left
          clear hb4
          go_wp2_with (fail)
          rw [HE.out]
          exact ⟨rfl, HA4.out, rfl, HLF.out⟩
        · have HNX : Hid (listP T E one most sign k0 = (one (k + 1)).bind fun y k' => listGo T E one most sign f (xs ++ [y]) k') := by unfold Hid; rw [HG.out, HGO.out, if_neg hml]
          have hml' : ¬ (xs.length : Int) = (most : Int) := by omega
          have HLT : Hid (xs.length < most) := by have := HF.out; unfold Hid; omega
          clear hml
          go_wp2_with (fail)
          refine HIS.out.mono ?_
          rintro e w3 ⟨rfl, hb3⟩
          have HL3 := Lib.hid (HLI.out.below HST.out HB.out hb3)
          have HMC := Lib.hid (must_calls HL3.out.rdr sign)
          rw [HMU.out] at HMC
          clear hb3
          go_wp2_with (fail)
          refine HMC.out.mono ?_
          rintro e w4 ⟨ha4, v4, rfl, hr4, rfl⟩
          have HL4 := Lib.hid (HL3.out.step HST.out HB.out ha4 hr4)
          have hcall := HONE.out w4 (k + 1) HL4.out.aside hr4
          clear ha4 hr4
          cases hry : one (k + 1) with
          | bad c a =>
            rw [hry] at hcall HNX
            have HCA := Lib.hid hcall
            clear hcall hry
            go_wp2_with (fail)
            refine HCA.out.mono ?_
            rintro e w5 ⟨ha5, rfl, hlf⟩
            have HLF := Lib.hid hlf
            clear hlf
            have HA5 := Lib.hid (HL4.out.aside.trans ha5)
            clear ha5
            go_wp2_with (fail)
            rw [HNX.out]
            exact ⟨rfl, HA5.out, rfl, HLF.out⟩
          | ok y k2 =>
            rw [hry] at hcall HNX
            have HCA := Lib.hid hcall
            clear hcall hry
            go_wp2_with (fail)
            refine HCA.out.mono ?_
            rintro e w5 ⟨ha5, v5, rfl, hr5, hx⟩
            obtain ⟨vl, va, rfl, hvl, hva⟩ := hx
            have hxe := (show ExIs (since w4.heap.size w5) y _ from ⟨vl, va, rfl, hvl, hva⟩).row
            obtain ⟨_, _, e9, hxe⟩ := hxe
            obtain ⟨rfl, rfl⟩ : _ = vl ∧ _ = va := by simp at e9; exact ⟨e9.1.symm, e9.2.symm⟩
            obtain ⟨pm, cm, rfl, _⟩ := hvl
            obtain ⟨pn, cn, rfl, _⟩ := hva
            have HXE := Lib.hid hxe
            clear hxe e9
            have HL5 := Lib.hid (HL4.out.step HST.out HB.out ha5 hr5)
            have HSZ : Hid (w.heap.size ≤ w4.heap.size) := HL4.out.aside.size
            have HOW4 : Hid (∀ g, (Value.slice p9 xs.length c9).ownBlock = some g → w.heap.size ≤ g ∧ g < w4.heap.size) := fun g hg => by
              obtain ⟨vals, q1, _⟩ := HL4.out.own
              exact q1.lt g hg
            obtain ⟨vals, hown5, hrows5⟩ := HL5.out.own
            have HROWS := Lib.hid hrows5
            have hsz5 := HL5.out.aside.size
            have hlm := HLT.out
            clear ha5 hr5 hrows5
            obtain ⟨W6, eW6⟩ : ∃ W6, w5.alloc (.cells #[.int .i64 y.kind, .int .i64 y.at_, .int .i64 y.num, .int .i64 y.ty, .string y.name, .slice pm y.lab.length cm, .slice pn y.kids.length cn] 26) = W6 := ⟨_, rfl⟩
            obtain ⟨z6, hW6, m6⟩ := boxes1 eW6
            have hown6 : W6.ownsRow w.heap.size 26 7 (.slice p9 xs.length c9) xs.length vals := own_below hown5 hW6
            have HL6 := Lib.hid (HL5.out.below HST.out HB.out hW6)
            have HROW6 : Hid (Rows exE 7 (hide (inList w.heap.size (.slice p9 xs.length c9)) W6) xs vals) := Rows.stays HST.out (keeps_hide hW6.size fun b hb hp => ⟨hp, hW6.block b hb⟩) HROWS.out
            have HXE6 : Hid (exE (since w4.heap.size W6) y [.int .i64 y.kind, .int .i64 y.at_, .int .i64 y.num, .int .i64 y.ty, .string y.name, .slice pm y.lab.length cm, .slice pn y.kids.length cn]) := HST.out _ _ _ _ (keeps_hide hW6.size fun b hb hp => ⟨hp, hW6.block b hb⟩) HXE.out
            have hsz6 : w.heap.size ≤ W6.heap.size := by omega
            clear hown5 z6 hW6
            go_wp2_with (at_builtin; refine wpList_append_own_at _ rfl _ _ 24 rfl w.heap.size 26 t0 (.agg #[.int .i64 0, .int .i64 0, .int .i64 0, .int .i64 0, .string ⟨#[]⟩, .slice none 0 0, .slice none 0 0]) 7 96 Tryz.underlying24 hi hz0 hz1 hz2 rfl (by decide) _ _ _ rfl hown6 ⟨w5.heap.size, 0, none⟩ 1 1 [.int .i64 y.kind, .int .i64 y.at_, .int .i64 y.num, .int .i64 y.ty, .string y.name, .slice pm y.lab.length cm, .slice pn y.kids.length cn] rfl rfl ?c1 ?c2 ?c3 ?c4 ?c5 ?_)
            case c1 =>
              intro i u hj
              rw [Go.WideShapes.add_plain, Nat.zero_add, m6 i]
              simpa using hj
            case c2 => intro u hu; simp at hu; first | (subst hu; rfl) | (rcases hu with hu | hu <;> subst hu <;> rfl) | (rcases hu with hu | hu | hu | hu | hu | hu | hu <;> subst hu <;> rfl)
            case c3 => unfold maxLen; omega
            case c4 => omega
            case c5 => exact hsz6
            · intro v7 w7 hown7 hg7 _ hb7
              have HN : Hid (LI exE 7 26 w w7 B T E tv dp ns v7 (xs ++ [y]) k2) := HL6.out.push HST.out HB.out HT.out HTAB.out HROW6.out HXE6.out rfl HSZ.out HOW4.out hown7 hg7 hb7
              clear hown7 hg7 hb7 hown6 m6
              go_wp2_with (fail)
              go_roundg f
              case measure => omega
              case rel => exact ⟨xs ++ [y], k2, _, _, rfl, rfl, ⟨by have := HF.out; have := HLT.out; omega, by have := HF.out; simp; omega⟩, HNX.out, HN.out⟩
end Go.Proofs.YtfigfefpejpboaaGreatDoor
namespace Go.Proofs.YtfigfefpejpboaaGreatDoor
open Go.RowKit
set_option linter.unusedVariables false
set_option linter.unusedSimpArgs false

theorem bind_ok {α β : Type} {r : Rs α} {f : α → Nat → Rs β} {y : β} {k : Nat} (h : r.bind f = .ok y k) : ∃ x k', r = .ok x k' ∧ f x k' = .ok y k := by
  cases r with
  | ok x k' => exact ⟨x, k', rfl, h⟩
  | bad c a => cases h
/-- It goes on. -/
def Mono {α : Type} (p : Nat → Rs α) : Prop := ∀ k x k', p k = .ok x k' → k ≤ k'
section
variable {T : List Tok} {E : Int}
theorem mustP_ok {s : Txt} {k k' : Nat} {u : Unit} (h : mustP T E s k = .ok u k') : tkIs T k s = true ∧ k' = k + 1 := by
  unfold mustP at h
  split at h
  · rename_i h1
    cases h
    exact ⟨h1, rfl⟩
  · cases h
theorem nameP_ok {k k' : Nat} {x : Txt} (h : nameP T E k = .ok x k') : (tkNext T k).1 = 1 ∧ x = (tkNext T k).2.2 ∧ k' = k + 1 := by
  unfold nameP at h
  split at h
  · rename_i h1
    cases h
    exact ⟨h1, rfl, rfl⟩
  · cases h
theorem nameP_mono : Mono (nameP T E) := fun k x k' h => by
  have := (nameP_ok h).2.2
  omega
theorem listGo_mono {α : Type} {one : Nat → Rs α} (h1 : Mono one) (most : Nat) (sign : Txt) (f : Nat) : ∀ (l : List α) (k : Nat) (x : List α) (k' : Nat), listGo T E one most sign f l k = .ok x k' → k ≤ k' := by
  induction f with
  | zero => intro l k x k' h; cases h; exact Nat.le_refl _
  | succ f ih =>
    intro l k x k' h
    unfold listGo at h
    split at h
    · split at h
      · cases h
      · obtain ⟨y, k2, e1, e2⟩ := bind_ok h
        have := h1 _ _ _ e1
        have := ih _ _ _ _ e2
        omega
    · cases h; exact Nat.le_refl _
theorem listP_mono {α : Type} {one : Nat → Rs α} (h1 : Mono one) (most : Nat) (sign : Txt) : Mono (listP T E one most sign) := fun k x k' h => by
  obtain ⟨y, k2, e1, e2⟩ := bind_ok h
  have := h1 _ _ _ e1
  have := listGo_mono h1 _ _ _ _ _ _ _ e2
  omega
theorem polP_mono : Mono (polP T E) := fun k x k' h => by
  obtain ⟨o, k1, e1, h⟩ := bind_ok h
  obtain ⟨u, k2, e2, h⟩ := bind_ok h
  have := nameP_mono _ _ _ e1
  have := (mustP_ok e2).2
  split at h
  · obtain ⟨rs, k3, e3, h⟩ := bind_ok h
    have := listP_mono nameP_mono _ _ _ _ _ e3
    cases h
    omega
  · cases h
    omega
theorem labelP_mono : Mono (labelP T E) := fun k x k' h => by
  obtain ⟨u, k1, e1, h⟩ := bind_ok h
  have := (mustP_ok e1).2
  split at h
  · cases h
    omega
  · obtain ⟨l, k2, e2, h⟩ := bind_ok h
    obtain ⟨u3, k3, e3, h⟩ := bind_ok h
    have := listP_mono polP_mono _ _ _ _ _ e2
    have := (mustP_ok e3).2
    cases h
    omega
theorem opLoop_mono {one : Nat → Rs Ex} (h1 : Mono one) (level : Int) (f : Nat) : ∀ (x : Ex) (k : Nat) (y : Ex) (k' : Nat), opLoop T one level f x k = .ok y k' → k ≤ k' := by
  induction f with
  | zero => intro x k y k' h; cases h; exact Nat.le_refl _
  | succ f ih =>
    intro x k y k' h
    unfold opLoop at h
    split at h
    · cases h; exact Nat.le_refl _
    · obtain ⟨z, k2, e1, e2⟩ := bind_ok h
      have := h1 _ _ _ e1
      have := ih _ _ _ _ e2
      omega
theorem exprL_mono {prim : Nat → Rs Ex} (h1 : Mono prim) (j : Nat) : Mono (exprL T prim j) := by
  induction j with
  | zero => exact h1
  | succ j ih =>
    intro k x k' h
    obtain ⟨y, k2, e1, e2⟩ := bind_ok h
    have := ih _ _ _ e1
    have := opLoop_mono ih _ _ _ _ _ _ e2
    omega
theorem argsP_mono {prim : Nat → Rs Ex} (h1 : Mono prim) : Mono (argsP T E prim) := fun k x k' h => by
  obtain ⟨u, k1, e1, h⟩ := bind_ok h
  have := (mustP_ok e1).2
  split at h
  · cases h
    omega
  · obtain ⟨l, k2, e2, h⟩ := bind_ok h
    obtain ⟨u3, k3, e3, h⟩ := bind_ok h
    have := listP_mono (exprL_mono h1 5) _ _ _ _ _ e2
    have := (mustP_ok e3).2
    cases h
    omega
theorem primP_mono (d : Nat) : Mono (primP T E d) := by
  induction d with
  | zero => intro k x k' h; cases h
  | succ d ih =>
    intro k x k' h
    unfold primP at h
    split at h
    · cases h; omega
    split at h
    · cases h; omega
    split at h
    · cases h; omega
    split at h
    · split at h
      · obtain ⟨l, k1, e1, h⟩ := bind_ok h
        have := argsP_mono ih _ _ _ e1
        cases h
        omega
      · cases h; omega
    split at h
    · obtain ⟨l, k1, e1, h⟩ := bind_ok h
      have := ih _ _ _ e1
      cases h
      omega
    split at h
    · obtain ⟨l, k1, e1, h⟩ := bind_ok h
      obtain ⟨u, k2, e2, h⟩ := bind_ok h
      have := exprL_mono ih 5 _ _ _ e1
      have := (mustP_ok e2).2
      cases h
      omega
    split at h
    · obtain ⟨u1, k1, e1, h⟩ := bind_ok h
      obtain ⟨x2, k2, e2, h⟩ := bind_ok h
      obtain ⟨u3, k3, e3, h⟩ := bind_ok h
      obtain ⟨l4, k4, e4, h⟩ := bind_ok h
      obtain ⟨u5, k5, e5, h⟩ := bind_ok h
      have := (mustP_ok e1).2
      have := exprL_mono ih 5 _ _ _ e2
      have := (mustP_ok e3).2
      have := labelP_mono _ _ _ e4
      have := (mustP_ok e5).2
      cases h
      omega
    · cases h
end
end Go.Proofs.YtfigfefpejpboaaGreatDoor
namespace Go.Proofs.YtfigfefpejpboaaGreatDoor
open Go.RowKit Go.Maps
set_option linter.unusedVariables false
set_option linter.unusedSimpArgs false

theorem since_set {n b : Nat} (w : World) (o : Nat) (v : Value) (hb : b < n) : Keeps (since n w) (since n (w.setCell ⟨b, o, none⟩ v)) :=
  keeps_hide (by simp [World.setCell]) fun i hi hp => ⟨hp, Below.heap_setCell _ _ _ _ (by simp at hp ⊢; omega)⟩
section
variable {w w' w'' : World} {B : Nat} {T : List Tok} {E : Int} {tv : Value} {k dp ns k0 dp0 ns0 : Nat}
theorem Rdr.via (h0 : Rdr w B T E tv k0 dp0 ns0) (ha : Aside1 B w w'') (hb : w''.heap[B]? = w'.heap[B]?) (h' : Rdr w' B T E tv k dp ns) : Rdr w'' B T E tv k dp ns := ⟨by rw [hb]; exact h'.blk, h0.toks.stays ha.keeps, h0.tab.aside ha⟩
theorem aside_new (ha : Aside1 B w w') {b : Nat} (hb : w.heap.size ≤ b) (o : Nat) (v : Value) : Aside1 B w (w'.setCell ⟨b, o, none⟩ v) :=
  ⟨ha.os, ha.tape, ha.output, by have := ha.size; simp [World.setCell]; omega, fun i hi hne => (Below.heap_setCell _ _ _ _ (by simp; omega)).trans (ha.block i hi hne)⟩
theorem aside_alloc (ha : Aside1 B w w') (o : Obj) : Aside1 B w (w'.alloc o) := ha.trans (aside_below ((Below.refl _ _).alloc (Nat.le_refl _) o))
/-- A block that is known whole. -/
def Blk (w : World) (b : Nat) (cs : List Value) (t : TypeId) : Prop := w.heap[b]? = some (.cells cs.toArray t (0, 0))
variable {b : Nat} {cs : List Value} {t : TypeId}
theorem Blk.lt (h : Blk w b cs t) : b < w.heap.size := (Array.getElem?_eq_some_iff.1 h).1
theorem Blk.new (w : World) (cs : List Value) (t : TypeId) : Blk (w.alloc (.cells cs.toArray t)) w.heap.size cs t := heap_alloc_new _ _
theorem Blk.aside (h : Blk w b cs t) (ha : Aside1 B w w') (hne : b ≠ B) : Blk w' b cs t := (ha.block b h.lt (fun e => hne (by simpa using e))).trans h
theorem Blk.below (h : Blk w b cs t) (ha : Below w.heap.size w w') : Blk w' b cs t := (ha.block b h.lt).trans h
theorem Blk.cell (h : Blk w b cs t) (i : Nat) : w.cell? ⟨b, i, none⟩ = cs[i]? := by
  unfold Blk at h
  simp [World.cell?, h]
theorem Blk.fz (h : Blk w b cs t) (i : Nat) : w.frozen? ⟨b, i, none⟩ = false := by
  unfold Blk at h
  simp [World.frozen?, h]
theorem Blk.set (h : Blk w b cs t) (i : Nat) (v : Value) : Blk (w.setCell ⟨b, i, none⟩ v) b (cs.set i v) t := by
  unfold Blk at h ⊢
  simp [World.setCell, Array.getElem?_modify, h, Array.setIfInBounds]
  intro hi
  rw [List.set_eq_of_length_le hi]
theorem Blk.other (h : Blk w b cs t) {b' : Nat} (hne : b ≠ b') (i : Nat) (v : Value) : Blk (w.setCell ⟨b', i, none⟩ v) b cs t := (Below.heap_setCell _ _ _ _ (by simpa using hne)).trans h
theorem Blk.same (h : Blk w b cs t) {i : Nat} {v : Value} (hv : cs[i]? = some v) : w.setCell ⟨b, i, none⟩ v = w := by
  have h2 := h.set i v
  have e : cs.set i v = cs := by
    apply List.ext_getElem?
    intro j
    rw [List.getElem?_set]
    split
    · rename_i e
      subst e
      split
      · exact hv.symm
      · rename_i hi
        rw [List.getElem?_eq_none (by omega)]
    · rfl
  rw [e] at h2
  unfold Blk at h h2
  have hh : (w.setCell ⟨b, i, none⟩ v).heap = w.heap := by
    apply Array.ext_getElem?
    intro j
    by_cases hj : j = b
    · subst hj
      rw [h2, h]
    · exact Below.heap_setCell _ _ _ _ (by simpa using hj)
  unfold World.setCell at hh ⊢
  cases w
  simp_all
theorem Rdr.blk' (h : Rdr w B T E tv k dp ns) : Blk w B [tv, .int .i64 k, .int .i64 E, .int .i64 dp, .int .i64 ns] 95 := h.blk
theorem Left.aside_set (h : Left w B E tv) (hne : B ≠ b) (i : Nat) (v : Value) : Left (w.setCell ⟨b, i, none⟩ v) B E tv := by
  obtain ⟨k, a, c, h⟩ := h
  exact ⟨k, a, c, (Below.heap_setCell _ _ _ _ (by simpa using hne)).trans h⟩
end
section
variable {w : World} {B : Nat} {T : List Tok} {E : Int} {tv : Value} {k dp ns : Nat}
set_option maxHeartbeats 2000000 in
set_option maxRecDepth 100000 in
theorem pol_calls (h : Rdr w B T E tv k dp ns) {gb : Nat} (hg : w.cell? ⟨gb, 0, none⟩ = some (.pointer (some ⟨B, 0, none⟩))) (hne : gb ≠ B) :
    Calls Tryz.prog 93 #[.pointer (some ⟨gb, 0, none⟩)] w (Does w B T E tv dp ns PolIs (polP T E k)) := by
  have hmf : ∀ (fn : Fn) (first cap : Array Value) (w : World), (Instr.makeFunc fn first cap).run Tryz.prog w = .ok (.func fn first cap) w := fun _ _ _ _ => rfl
  have hfd : ∀ (a b : Int) (c : Txt) (w : World), (Instr.field 93 (.agg #[.int .i64 a, .int .i64 b, .string c]) 0).run Tryz.prog w = .ok (.int .i64 a) w := fun _ _ _ _ => rfl
  have H0 := Lib.hid h
  have HGL : Hid (gb < w.heap.size) := cell_lt hg
  have HG : Hid (∀ W, Aside1 B w W → W.cell? ⟨gb, 0, none⟩ = some (.pointer (some ⟨B, 0, none⟩))) := fun W ha => ha.cell hne hg
  have HP : Hid (polP T E k = (nameP T E k).bind fun o k1 => (mustP T E tColon k1).bind fun _ k2 =>
    if (tkNext T k2).1 = 1 then (listP T E (nameP T E) 6 tComma k2).bind fun rs k3 => .ok (o, rs) k3 else .ok (o, []) k2) := rfl
  obtain ⟨W1, eW⟩ : ∃ W1, w.alloc (.cells #[.string ⟨#[]⟩, .slice none 0 0] 62) = W1 := ⟨_, rfl⟩
  have hn1 : W1.heap.size = w.heap.size + 1 := by rw [← eW]; simp
  have HB1 : Hid (Blk W1 w.heap.size [.string ⟨#[]⟩, .slice none 0 0] 62) := by rw [← eW]; exact Blk.new _ _ _
  have hA1 : Aside1 B w W1 := by rw [← eW]; exact aside_alloc (Aside1.refl _ _) _
  have HA1 := Lib.hid hA1
  have HBN : Hid (w.heap.size ≠ B) := by have := h.lt; unfold Hid; omega
  have HN1 := Lib.hid hn1
  have g1 := HG.out W1 hA1
  have h1 := nameP_calls (h.via hA1 (by rw [← eW]; exact ((Below.refl w.heap.size w).alloc (Nat.le_refl _) _).block B h.lt) h)
  clear hg hne h hA1 hn1
  cases hr : nameP T E k with
  | bad c a =>
    rw [hr] at h1 HP
    have H1 := Lib.hid h1
    clear h1 hr
    go_enter Tryz.func93, Tryz.ntmps93
    go_wp2_with (fail)
    refine H1.out.mono ?_
    rintro e w2 ⟨ha, rfl, hlf⟩
    have HA := Lib.hid (HA1.out.trans ha)
    have HLF := Lib.hid hlf
    clear hlf ha
    go_wp2_with (fail)
    rw [HP.out]
    exact ⟨rfl, HA.out, rfl, HLF.out⟩
  | ok o k1 =>
    rw [hr] at h1 HP
    have H1 := Lib.hid h1
    clear h1 hr
    go_enter Tryz.func93, Tryz.ntmps93
    go_wp2_with (fail)
    refine H1.out.mono ?_
    rintro e w2 ⟨ha, v2, rfl, hr2, rfl⟩
    obtain ⟨W3, eW3⟩ : ∃ W3, w2.alloc (.cells #[.string o, .slice none 0 0] 62) = W3 := ⟨_, rfl⟩
    have hA2 := HA1.out.trans ha
    have hb3 : Below w2.heap.size w2 W3 := by rw [← eW3]; exact (Below.refl _ _).alloc (Nat.le_refl _) _
    have hA3 := hA2.trans (aside_below hb3)
    have HA3 := Lib.hid hA3
    have HN2 : Hid (w.heap.size < w2.heap.size) := by have h1 := ha.size; have h2 := HN1.out; unfold Hid; omega
    have HB3 : Hid (Blk W3 w.heap.size [.string ⟨#[]⟩, .slice none 0 0] 62) := ((HB1.out.aside ha HBN.out).below hb3)
    have HC3 : Hid (Blk W3 w2.heap.size [.string o, .slice none 0 0] 62) := by rw [← eW3]; exact Blk.new _ _ _
    have HBN2 : Hid (w2.heap.size ≠ B) := by have h1 := hr2.lt; unfold Hid; omega
    have HN3 : Hid (w2.heap.size < W3.heap.size) := by rw [← eW3]; unfold Hid; simp
    have hr3 := hr2.below hb3
    have h3 := must_calls hr3 tColon
    have g3 := HG.out W3 hA3
    have c31 := HC3.out.cell 1
    simp only [List.getElem?_cons_zero, List.getElem?_cons_succ] at c31
    have f31 := HC3.out.fz 1
    have eS3 := HC3.out.same (i := 1) (v := .slice none 0 0) rfl
    clear ha hr2 hb3 hA2 hA3 hr3 H1
    cases hm : mustP T E tColon k1 with
    | bad c a =>
      rw [hm] at h3
      have HPE : Hid (polP T E k = .bad c a) := by unfold Hid; rw [HP.out]; show (mustP T E tColon k1).bind _ = _; rw [hm]; rfl
      unfold tColon at h3
      have H3 := Lib.hid h3
      clear h3 hm
      go_wp2_with (fail)
      refine H3.out.mono ?_
      rintro e w4 ⟨ha, rfl, hlf⟩
      have HA := Lib.hid (HA3.out.trans ha)
      have HLF := Lib.hid hlf
      clear hlf ha
      go_wp2_with (fail)
      rw [HPE.out]
      exact ⟨rfl, HA.out, rfl, HLF.out⟩
    | ok u k2 =>
      rw [hm] at h3
      have HPE : Hid (polP T E k = if (tkNext T k2).1 = 1 then (listP T E (nameP T E) 6 tComma k2).bind fun rs k3 => .ok (o, rs) k3 else .ok (o, []) k2) := by unfold Hid; rw [HP.out]; show (mustP T E tColon k1).bind _ = _; rw [hm]; rfl
      unfold tColon at h3
      have H3 := Lib.hid h3
      clear h3 hm
      go_wp2_with (fail)
      refine H3.out.mono ?_
      rintro e w4 ⟨ha, v4, rfl, hr4, rfl⟩
      have HA4 := Lib.hid (HA3.out.trans ha)
      have HR4 := Lib.hid hr4
      have HB4 := Lib.hid (HB3.out.aside ha HBN.out)
      have HC4 := Lib.hid (HC3.out.aside ha HBN2.out)
      have HN4 : Hid (w2.heap.size < w4.heap.size) := by have h1 := ha.size; have h2 := HN3.out; unfold Hid; omega
      have HNX := Lib.hid (next_calls hr4)
      have g4 := HG.out w4 HA4.out
      clear ha hr4 H3 HA3 HB3 HC3 HN3 g1 g3 eW eW3 c31 f31 eS3
      go_wp2_with (fail)
      refine HNX.out.mono ?_
      rintro e w5 ⟨rfl, hb5⟩
      have HA5 := Lib.hid (HA4.out.trans (aside_below hb5))
      have HR5 := Lib.hid (HR4.out.below hb5)
      have HB5 := Lib.hid (HB4.out.below hb5)
      have HC5 := Lib.hid (HC4.out.below hb5)
      have HN5 : Hid (w2.heap.size < w5.heap.size) := by have h1 := hb5.size; have h2 := HN4.out; unfold Hid; omega
      have g5 := HG.out w5 HA5.out
      clear hb5 g4
      by_cases hk : (tkNext T k2).1 = 1
      · rw [if_pos hk] at HPE
        generalize (tkNext T k2).1 = tk at *
        have hkb : (tk == 1) = true := by simp [hk]
        clear hk
        have h6 := listStr_calls 0 HR5.out (nameP T E) 6 tComma (by decide) (by decide) (fun W k _ hr => nameP_calls hr)
        cases hl : listP T E (nameP T E) 6 tComma k2 with
        | bad c a =>
          rw [hl] at h6 HPE
          unfold tComma at h6
          have H6 := Lib.hid h6
          clear h6 hl
          go_wp2_with (fail)
          refine H6.out.mono ?_
          rintro e w6 ⟨ha, rfl, hlf⟩
          have HA := Lib.hid (HA5.out.trans ha)
          have HLF := Lib.hid hlf
          clear hlf ha
          go_wp2_with (fail)
          rw [HPE.out]
          exact ⟨rfl, HA.out, rfl, HLF.out⟩
        | ok rs k3 =>
          rw [hl] at h6 HPE
          unfold tComma at h6
          have H6 := Lib.hid h6
          clear h6 hl
          go_wp2_with (fail)
          refine H6.out.mono ?_
          rintro e w6 ⟨ha, v6, rfl, hr6, hs6⟩
          have hA6 := HA5.out.trans ha
          obtain ⟨W7, eW7⟩ : ∃ W7, w6.setCell ⟨w2.heap.size, 1, none⟩ v6 = W7 := ⟨_, rfl⟩
          have hC6 := HC5.out.aside ha HBN2.out
          have hB6 := HB5.out.aside ha HBN.out
          have c61 := hC6.cell 1
          simp only [List.getElem?_cons_zero, List.getElem?_cons_succ] at c61
          have f61 := hC6.fz 1
          have hC7 : Blk W7 w2.heap.size [.string o, v6] 62 := by rw [← eW7]; exact hC6.set 1 v6
          have hB7 : Blk W7 w.heap.size [.string ⟨#[]⟩, .slice none 0 0] 62 := by rw [← eW7]; exact hB6.other (Nat.ne_of_lt HN2.out) 1 v6
          have hA7 : Aside1 B w W7 := by rw [← eW7]; exact aside_new hA6 (Nat.le_of_lt HN2.out) _ _
          have hR7 : W7.heap[B]? = w6.heap[B]? := by rw [← eW7]; exact Below.heap_setCell _ _ _ _ (by simp; exact fun e => HBN2.out e.symm)
          have hS7 : Strs (since w5.heap.size W7) rs v6 := by
            refine SliceOf.stays (One.stays _) ?_ hs6
            rw [← eW7]
            exact since_set _ _ _ HN5.out
          have HNN : Hid (w.heap.size < w5.heap.size) := by have := HN5.out; have := HN2.out; unfold Hid; omega
          have b70 := hB7.cell 0
          have b71 := hB7.cell 1
          have c70 := hC7.cell 0
          have c71 := hC7.cell 1
          simp only [List.getElem?_cons_zero, List.getElem?_cons_succ] at b70 b71 c70 c71
          have g70 := hB7.fz 0
          have g71 := hB7.fz 1
          have HR6 := Lib.hid hr6
          have HA7 := Lib.hid hA7
          have HR7 := Lib.hid hR7
          have HB7 := Lib.hid hB7
          have HS7 := Lib.hid hS7
          obtain ⟨p6, n6, c6, e6⟩ : ∃ p6 n6 c6, v6 = .slice p6 n6 c6 := by obtain ⟨p, c, e, _⟩ := hs6; exact ⟨_, _, _, e⟩
          subst e6
          clear ha hr6 hs6 hA6 hC6 hB6 hC7 hB7 hA7 hR7 hS7 H6 HNX HR4 HB4 HC4 HA4 g5
          go_wp2_with (fail)
          refine bodyPost_ret (v := .agg #[.string o, .slice p6 n6 c6]) ?_ rfl ?_
          · have hq := (HB7.out.set 0 (.string o)).set 1 (.slice p6 n6 c6)
            have q0 := hq.cell 0
            have q1 := hq.cell 1
            simp only [List.set_cons_zero, List.set_cons_succ, List.getElem?_cons_zero, List.getElem?_cons_succ] at q0 q1
            simp [results, Tryz.results93, go_sem, q0, q1]
          · rw [HPE.out]
            have hA9 := aside_new (aside_new HA7.out (Nat.le_refl w.heap.size) 0 (.string o)) (Nat.le_refl w.heap.size) 1 (.slice p6 n6 c6)
            refine ⟨hA9, _, rfl, H0.out.via hA9 ?_ HR6.out, _, rfl, HS7.out.stays (((since_set _ _ _ HNN.out).trans (since_set _ _ _ HNN.out)).trans (since_mono _ (Nat.le_of_lt HNN.out)))⟩
            rw [← HR7.out]
            exact (Below.heap_setCell _ _ _ _ (by simp; exact fun e => HBN.out e.symm)).trans (Below.heap_setCell _ _ _ _ (by simp; exact fun e => HBN.out e.symm))
      · rw [if_neg hk] at HPE
        generalize (tkNext T k2).1 = tk at *
        have hkb : (tk == 1) = false := by simp [hk]
        have b70 := HB5.out.cell 0
        have b71 := HB5.out.cell 1
        have c70 := HC5.out.cell 0
        have c71 := HC5.out.cell 1
        simp only [List.getElem?_cons_zero, List.getElem?_cons_succ] at b70 b71 c70 c71
        have g70 := HB5.out.fz 0
        have g71 := HB5.out.fz 1
        clear hk g5
        go_wp2_with (fail)
        refine bodyPost_ret (v := .agg #[.string o, .slice none 0 0]) ?_ rfl ?_
        · have hq := (HB5.out.set 0 (.string o)).set 1 (.slice none 0 0)
          have q0 := hq.cell 0
          have q1 := hq.cell 1
          simp only [List.set_cons_zero, List.set_cons_succ, List.getElem?_cons_zero, List.getElem?_cons_succ] at q0 q1
          simp [results, Tryz.results93, go_sem, q0, q1]
        · rw [HPE.out]
          have hA9 := aside_new (aside_new HA5.out (Nat.le_refl w.heap.size) 0 (.string o)) (Nat.le_refl w.heap.size) 1 (.slice none 0 0)
          refine ⟨hA9, _, rfl, H0.out.via hA9 ?_ HR5.out, _, rfl, ⟨none, 0, rfl, Nat.le_refl _, by unfold maxLen; decide, .inl rfl⟩⟩
          exact (Below.heap_setCell _ _ _ _ (by simp; exact fun e => HBN.out e.symm)).trans (Below.heap_setCell _ _ _ _ (by simp; exact fun e => HBN.out e.symm))
set_option maxHeartbeats 2000000 in
set_option maxRecDepth 100000 in
theorem label_calls (h : Rdr w B T E tv k dp ns) : Calls Tryz.prog 45 #[.pointer (some ⟨B, 0, none⟩)] w (Does w B T E tv dp ns (fun W l v => SliceOf pol 2 W l v) (labelP T E k)) := by
  have hmf : ∀ (fn : Fn) (first cap : Array Value) (w : World), (Instr.makeFunc fn first cap).run Tryz.prog w = .ok (.func fn first cap) w := fun _ _ _ _ => rfl
  have HP : Hid (labelP T E k = (mustP T E tOpen k).bind fun _ k1 =>
    if tkIs T k1 tShut then .ok [] (k1 + 1) else (listP T E (polP T E) 200 tSemi k1).bind fun l k2 => (mustP T E tShut k2).bind fun _ k3 => .ok l k3) := rfl
  obtain ⟨W1, eW⟩ : ∃ W1, w.alloc (.cells #[.pointer (some ⟨B, 0, none⟩)] 55) = W1 := ⟨_, rfl⟩
  have hB1 : Blk W1 w.heap.size [.pointer (some ⟨B, 0, none⟩)] 55 := by rw [← eW]; exact Blk.new _ _ _
  have hb1 : Below w.heap.size w W1 := by rw [← eW]; exact (Below.refl _ _).alloc (Nat.le_refl _) _
  have HN : Hid (w.heap.size < W1.heap.size) := hB1.lt
  have HNE : Hid (w.heap.size ≠ B) := by have := h.lt; unfold Hid; omega
  have HG : Hid (∀ W, Aside1 B W1 W → W.cell? ⟨w.heap.size, 0, none⟩ = some (.pointer (some ⟨B, 0, none⟩))) := fun W ha => by
    have := (hB1.aside ha HNE.out).cell 0
    simpa using this
  have HBL : Hid (B < W1.heap.size) := by have := h.lt; have := HN.out; unfold Hid; omega
  have HA1 := Lib.hid (aside_below (B := B) hb1)
  have HR1 := Lib.hid (h.below hb1)
  have g1 := HG.out W1 (Aside1.refl _ _)
  have h1 := must_calls HR1.out tOpen
  have HX : Hid (∀ W (l : List Pol) v, SliceOf pol 2 (since W1.heap.size W) l v → SliceOf pol 2 (since w.heap.size W) l v) := fun W l v q => SliceOf.stays pol_stays (since_mono _ (Nat.le_of_lt HN.out)) q
  clear hB1 hb1 h
  cases hm : mustP T E tOpen k with
  | bad c a =>
    rw [hm] at h1
    have HPE : Hid (labelP T E k = .bad c a) := by unfold Hid; rw [HP.out, hm]; rfl
    unfold tOpen at h1
    have H1 := Lib.hid h1
    clear h1 hm
    go_enter Tryz.func45, Tryz.ntmps45
    go_wp2_with (fail)
    refine H1.out.mono ?_
    rintro e w2 ⟨ha, rfl, hlf⟩
    have HA := Lib.hid (HA1.out.trans ha)
    have HLF := Lib.hid hlf
    clear hlf ha
    go_wp2_with (fail)
    rw [HPE.out]
    exact ⟨rfl, HA.out, rfl, HLF.out⟩
  | ok u k1 =>
    rw [hm] at h1
    have HPE : Hid (labelP T E k = if tkIs T k1 tShut then .ok [] (k1 + 1) else (listP T E (polP T E) 200 tSemi k1).bind fun l k2 => (mustP T E tShut k2).bind fun _ k3 => .ok l k3) := by unfold Hid; rw [HP.out, hm]; rfl
    unfold tOpen at h1
    have H1 := Lib.hid h1
    clear h1 hm HP
    cases hs : tkIs T k1 tShut with
    | true =>
      rw [hs] at HPE
      go_enter Tryz.func45, Tryz.ntmps45
      go_wp2_with (fail)
      refine H1.out.mono ?_
      rintro e w2 ⟨ha, v2, rfl, hr2, rfl⟩
      have HA2 := Lib.hid ha
      have g2 := HG.out w2 ha
      have h2 := eat_yes hr2 tShut hs
      unfold tShut at h2
      have H2 := Lib.hid h2
      clear ha hr2 h2 hs g1 eW H1
      go_wp2_with (fail)
      refine H2.out.mono ?_
      rintro e w3 ⟨rfl, ha, hr3⟩
      have HA3 := Lib.hid (HA1.out.trans (HA2.out.trans ha))
      have HR3 := Lib.hid hr3
      clear ha hr3 g2
      go_wp2_with (fail)
      go_ret
      rw [HPE.out]
      exact ⟨HA3.out, _, rfl, HR3.out, ⟨none, 0, rfl, Nat.le_refl _, by unfold maxLen; decide, .inl rfl⟩⟩
    | false =>
      rw [hs] at HPE
      go_enter Tryz.func45, Tryz.ntmps45
      go_wp2_with (fail)
      refine H1.out.mono ?_
      rintro e w2 ⟨ha, v2, rfl, hr2, rfl⟩
      have HA2 := Lib.hid ha
      have g2 := HG.out w2 ha
      have h2 := eat_no hr2 tShut hs
      unfold tShut at h2
      have H2 := Lib.hid h2
      clear ha hr2 h2 hs g1 eW H1
      go_wp2_with (fail)
      refine H2.out.mono ?_
      rintro e w3 ⟨rfl, ha, hr3⟩
      have HA3 := Lib.hid (HA2.out.trans ha)
      have g3 := HG.out w3 HA3.out
      have h3 := listPol_calls w.heap.size hr3 (polP T E) 200 tSemi (by decide) (by decide) (fun W k ha hr => pol_calls hr (HG.out W (HA3.out.trans ha)) HNE.out)
      have HSZ3 : Hid (W1.heap.size ≤ w3.heap.size) := HA3.out.size
      clear ha hr3 g2 H2 HA2
      cases hl : listP T E (polP T E) 200 tSemi k1 with
      | bad c a =>
        rw [hl] at h3 HPE
        unfold tSemi at h3
        have H3 := Lib.hid h3
        clear h3 hl
        go_wp2_with (fail)
        refine H3.out.mono ?_
        rintro e w4 ⟨ha, rfl, hlf⟩
        have HA := Lib.hid (HA1.out.trans (HA3.out.trans ha))
        have HLF := Lib.hid hlf
        clear hlf ha
        go_wp2_with (fail)
        rw [HPE.out]
        exact ⟨rfl, HA.out, rfl, HLF.out⟩
      | ok l k2 =>
        rw [hl] at h3 HPE
        unfold tSemi at h3
        have H3 := Lib.hid h3
        clear h3 hl
        go_wp2_with (fail)
        refine H3.out.mono ?_
        rintro e w4 ⟨ha, v4, rfl, hr4, hs4⟩
        have HA4 := Lib.hid (HA3.out.trans ha)
        have HS4 : Hid (SliceOf pol 2 (since W1.heap.size w4) l v4) := SliceOf.stays pol_stays (since_mono _ HSZ3.out) hs4
        have g4 := HG.out w4 HA4.out
        have h4 := must_calls hr4 tShut
        obtain ⟨p4, n4, c4, rfl⟩ : ∃ p4 n4 c4, v4 = .slice p4 n4 c4 := by obtain ⟨p, c, e, _⟩ := hs4; exact ⟨_, _, _, e⟩
        clear ha hr4 hs4 g3 H3
        cases hm2 : mustP T E tShut k2 with
        | bad c a =>
          rw [hm2] at h4
          have HPF : Hid (labelP T E k = .bad c a) := by unfold Hid; rw [HPE.out]; show (mustP T E tShut k2).bind _ = _; rw [hm2]; rfl
          unfold tShut at h4
          have H4 := Lib.hid h4
          clear h4 hm2
          go_wp2_with (fail)
          refine H4.out.mono ?_
          rintro e w5 ⟨ha, rfl, hlf⟩
          have HA := Lib.hid (HA1.out.trans (HA4.out.trans ha))
          have HLF := Lib.hid hlf
          clear hlf ha
          go_wp2_with (fail)
          rw [HPF.out]
          exact ⟨rfl, HA.out, rfl, HLF.out⟩
        | ok u5 k3 =>
          rw [hm2] at h4
          have HPF : Hid (labelP T E k = .ok l k3) := by unfold Hid; rw [HPE.out]; show (mustP T E tShut k2).bind _ = _; rw [hm2]; rfl
          unfold tShut at h4
          have H4 := Lib.hid h4
          clear h4 hm2
          go_wp2_with (fail)
          refine H4.out.mono ?_
          rintro e w5 ⟨ha, v5, rfl, hr5, rfl⟩
          have HA := Lib.hid (HA1.out.trans (HA4.out.trans ha))
          have HR5 := Lib.hid hr5
          have HS5 := Lib.hid (SliceOf.stays pol_stays (since_aside ha HBL.out) HS4.out)
          clear ha hr5
          go_wp2_with (fail)
          go_ret
          rw [HPF.out]
          exact ⟨HA.out, _, rfl, HR5.out, HX.out _ _ _ HS5.out⟩
end
end Go.Proofs.YtfigfefpejpboaaGreatDoor
