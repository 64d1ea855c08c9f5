/-
  The document's LongLabel and LabelText.
-/
import Derived.Test.YtcobgbkoeehdnaaPrint
namespace Go.Proofs.Ytcobgbkoeehdnaa
open Go.RowKit Go.Maps
set_option linter.unusedVariables false
set_option linter.unusedSimpArgs false

theorem bytesT_append (a b : List UInt8) : bytesT (a ++ b) = bytesT a ++ bytesT b := by
  unfold bytesT; rw [ByteArray.mk_append_mk]
theorem bytesT_data (s : Txt) : bytesT s.data.toList = s := by
  cases s; simp [bytesT]
theorem joinT_nil (sep : Txt) : joinT [] sep = ByteArray.empty := rfl
theorem joinT_one (y sep : Txt) : joinT [y] sep = y := by
  unfold joinT; rw [List.map_cons, List.map_nil, Lib.join_one, bytesT_data]
theorem joinT_snoc (l : List Txt) (y sep : Txt) (h : l ≠ []) : joinT (l ++ [y]) sep = joinT l sep ++ sep ++ y := by
  cases l with
  | nil => exact absurd rfl h
  | cons x l =>
    unfold joinT
    rw [List.cons_append, List.map_cons, List.map_cons, Lib.join_cons, Lib.join_cons, List.map_append, List.map_cons, List.map_nil]
    unfold Lib.joinTail
    rw [List.map_append, List.flatten_append]
    simp only [List.map_cons, List.map_nil, List.flatten_cons, List.flatten_nil, List.append_nil, bytesT_append, bytesT_data, ByteArray.append_assoc]
theorem empty_append (s : Txt) : ByteArray.empty ++ s = s := by simp

set_option maxHeartbeats 1000000 in
theorem longLabel_calls (x : Lab) (u : Value) (w : World) (hu : Lbl w x u) :
    Calls Try.prog 23 #[u] w fun e w' => e = .returned (.bool (longL x)) ∧ Below w.heap.size w w' := by
  obtain ⟨b, o, c, p, rfl, hlc1, hcm1, hp, hcells⟩ := hu.cells
  clear hu
  by_cases h0 : x.length ≤ 200
  · have h0' : (x.length : Int) ≤ 200 := by omega
    go_enter Try.func23, Try.ntmps23
    go_wp2
    go_loopw [4, 6, 12] (fun _ _ i wr => ∃ k : Nat, k ≤ x.length ∧ i = .int .i64 k ∧ Below w.heap.size w wr ∧ Hid (∀ j (hj : j < x.length), j < k → longP x[j] = false)) (fun _ _ i _ => x.length - (intOf i).toNat)
    case atStart => exact ⟨0, Nat.zero_le _, rfl, Below.refl _ _, fun j _ hj => absurd hj (Nat.not_lt_zero _)⟩
    case round =>
      obtain ⟨k, hk, rfl, hb, HN⟩ := hrel
      by_cases hlt : k < x.length
      · obtain ⟨ur, hca, hcb, hur⟩ := hcells k hlt
        have hcell1 : wr.cell? ⟨b, o + k * 2, none⟩ = some (.string x[k].1) := (hb.cell (cell_lt hca)).trans hca
        have hcell2 : wr.cell? ⟨b, o + k * 2 + 1, none⟩ = some ur := (hb.cell (cell_lt hcb)).trans hcb
        obtain rfl := hp (by omega)
        clear hp hcells hca hcb
        obtain ⟨b7, o7, c7, p7, rfl, hl7, hc7, hp7, hcells7⟩ := hur.cells
        by_cases h6 : 6 < x[k].2.length
        · have h6' : decide (6 < (x[k].2.length : Int)) = true := by simp; omega
          have h6'' : 6 < (x[k].2.length : Int) := by omega
          have HX : Hid (longL x = true) := long_at hlt (longP_many h6)
          go_wp2
          go_ret
          exact ⟨ret_bool HX.out.symm, hb.alloc hb.size _⟩
        · have h6' : decide (6 < (x[k].2.length : Int)) = false := by simp; omega
          have h6'' : (x[k].2.length : Int) ≤ 6 := by omega
          by_cases ho : 12 < x[k].1.size
          · have ho' : decide (12 < (x[k].1.size : Int)) = true := by simp; omega
            have ho'' : 12 < (x[k].1.size : Int) := by omega
            have HX : Hid (longL x = true) := long_at hlt (longP_at rfl (k := 0) (by simp) ho)
            go_wp2
            go_ret
            exact ⟨ret_bool HX.out.symm, hb.alloc hb.size _⟩
          · have ho' : decide (12 < (x[k].1.size : Int)) = false := by simp; omega
            have ho'' : (x[k].1.size : Int) ≤ 12 := by omega
            have hbA : Below w.heap.size w (wr.alloc (.cells #[.string x[k].1, .slice p7 x[k].2.length c7] 74)) := hb.alloc hb.size _
            have hk7 := keeps_of_below hbA
            have HBA := Lib.hid hbA
            have HO := Lib.hid ho
            generalize hrs : x[k].2 = rs at *
            have HRS := Lib.hid hrs
            clear hrs hur hbA ho
            go_wp2
            go_loop [6, 29] (fun _ i => ∃ m : Nat, m ≤ rs.length ∧ i = .int .i64 m ∧ Hid (∀ j (hj : j < rs.length), j < m → ¬ 12 < rs[j].size)) (fun _ i => rs.length - (intOf i).toNat)
            case atStart => exact ⟨0, Nat.zero_le _, rfl, fun j _ hj => absurd hj (Nat.not_lt_zero _)⟩
            case round =>
              obtain ⟨m, hm, rfl, HM⟩ := hrel
              by_cases hltm : m < rs.length
              · have hcell : (wr.alloc (.cells #[.string x[k].1, .slice p7 rs.length c7] 74)).cell? ⟨b7, o7 + m, none⟩ = some (.string rs[m]) := cell_keep hk7 (hcells7 m hltm)
                obtain rfl := hp7 (by omega)
                clear hcells7 hp7
                by_cases hs : 12 < rs[m].size
                · have HX : Hid (longL x = true) := long_at hlt (longP_at (ys := x[k].1 :: rs) (by rw [HRS.out]) (k := m + 1) (by simp; omega) (by simpa using hs))
                  have hs' : 12 < (rs[m].size : Int) := by omega
                  go_wp2
                  go_ret
                  exact ⟨ret_bool HX.out.symm, HBA.out⟩
                · have hs' : (rs[m].size : Int) ≤ 12 := by omega
                  have HS := Lib.hid hs
                  go_wp2
                  go_round
                  case rel =>
                    refine ⟨m + 1, by omega, by go_num, fun j hj hj' => ?_⟩
                    by_cases e : j = m
                    · subst e; exact HS.out
                    · exact HM.out j hj (by omega)
                  case measure => simp [intOf]; omega
              · have HX : Hid (longP x[k] = false) := longP_none (ys := x[k].1 :: rs) (by rw [HRS.out]) (by rw [HRS.out]; exact h6) fun j hj => by
                  cases j with
                  | zero => exact HO.out
                  | succ j => exact HM.out j (by simpa using hj) (by simp at hj; omega)
                clear hcells7 hp7
                go_wp2
                go_roundw
                case rel =>
                  refine ⟨k + 1, by omega, by go_num, HBA.out, fun j hj hj' => ?_⟩
                  by_cases e : j = k
                  · subst e; exact HX.out
                  · exact HN.out j hj (by omega)
                case measure => simp [intOf]; omega
      · have HX : Hid (longL x = false) := long_none (by omega) fun j hj => HN.out j hj (by omega)
        clear hp hcells
        go_wp2
        go_ret
        exact ⟨ret_bool HX.out.symm, hb⟩
  · have h0' : 200 < (x.length : Int) := by omega
    have HX : Hid (longL x = true) := long_many (by omega)
    go_enter Try.func23, Try.ntmps23
    go_wp2
    go_ret
    exact ⟨ret_bool HX.out.symm, Below.refl _ _⟩

/-- The text of the first policies. -/
def joinP (x : Lab) (k : Nat) : Txt := joinT ((x.take k).map polT) semiT
theorem joinP_size {x : Lab} (h : ∀ j (hj : j < x.length), longP x[j] = false) (h0 : x.length ≤ 200) (k : Nat) : (joinP x k).size ≤ 18400 := by
  unfold joinP
  rw [joinT_size]
  have hn : ∀ s ∈ (x.take k).map polT, s.size ≤ 91 := fun s hs => by
    obtain ⟨p, hp, rfl⟩ := List.mem_map.1 hs
    obtain ⟨j, hj, rfl⟩ := List.getElem_of_mem (List.mem_of_mem_take hp)
    exact polT_size (h j hj)
  have hl := join_len _ semiT 91 hn
  have e1 : semiT.size = 1 := rfl
  have hm : ((x.take k).map polT).length * (91 + semiT.size) ≤ 200 * 92 := Nat.mul_le_mul (by rw [List.length_map, List.length_take]; omega) (by rw [e1]; decide)
  omega
theorem joinP_first {x : Lab} (h : 0 < x.length) : joinP x (0 + 1) = polT x[0] := by
  unfold joinP; rw [List.take_succ_eq_append_getElem h, List.take_zero, List.nil_append, List.map_cons, List.map_nil, joinT_one]
theorem joinP_next {x : Lab} {k : Nat} (hk : k < x.length) (h0 : ¬ k = 0) : joinP x (k + 1) = joinP x k ++ semiT ++ polT x[k] := by
  unfold joinP
  rw [List.take_succ_eq_append_getElem hk, List.map_append, List.map_cons, List.map_nil, joinT_snoc]
  intro h
  have := congrArg List.length (List.map_eq_nil_iff.1 h)
  rw [List.length_take, List.length_nil] at this
  omega
theorem joinP_step0 {x : Lab} {k : Nat} (hk : k < x.length) (h0 : k = 0) : joinP x k ++ (x[k].1 ++ colonT) ++ joinT x[k].2 commaT = joinP x (k + 1) := by
  subst h0
  rw [joinP_first hk]
  show joinT ((x.take 0).map polT) semiT ++ (x[0].1 ++ colonT) ++ joinT x[0].2 commaT = polT x[0]
  rw [List.take_zero, List.map_nil, joinT_nil, empty_append]
  rfl
theorem joins_len {l : List Txt} (h : l.length ≤ 6) (hs : ∀ s ∈ l, s.size ≤ 12) (m : Nat) (hm : m ≤ l.length) : (joinT (l.take m) commaT).size ≤ 78 := by
  rw [joinT_size]
  have := join_len (l.take m) commaT 12 fun s hs' => hs s (List.mem_of_mem_take hs')
  have e : commaT.size = 1 := rfl
  have : (l.take m).length * (12 + commaT.size) ≤ 6 * 13 := Nat.mul_le_mul (by rw [List.length_take]; omega) (by rw [e]; decide)
  omega
theorem longL_false {x : Lab} (h : longL x = false) : x.length ≤ 200 ∧ ∀ j (hj : j < x.length), longP x[j] = false := by
  unfold longL at h
  rw [Bool.or_eq_false_iff, List.any_eq_false] at h
  refine ⟨by have := h.1; simp at this; omega, fun j hj => ?_⟩
  have := h.2 _ (List.getElem_mem hj)
  simpa using this

set_option maxHeartbeats 1000000 in
theorem labelText_calls (x : Lab) (u : Value) (w : World) (hu : Lbl w x u) (hx : longL x = false) :
    Calls Try.prog 24 #[u] w fun e w' => e = .returned (.string (printT x)) ∧ Below w.heap.size w w' := by
  obtain ⟨b, o, c, p, rfl, hlc1, hcm1, hp, hcells⟩ := hu.cells
  obtain ⟨h200, hlong⟩ := longL_false hx
  have HJS : Hid (∀ k, (joinP x k).size ≤ 18400) := fun k => joinP_size hlong h200 k
  have HLG := Lib.hid hlong
  clear hu hx hlong
  go_enter Try.func24, Try.ntmps24
  go_wp2
  go_loopw [3, 4, 5, 6, 7, 10] (fun s _ _ _ _ i wr => ∃ k : Nat, k ≤ x.length ∧ i = .int .i64 k ∧ s = .string (joinP x k) ∧ Below w.heap.size w wr) (fun _ _ _ _ _ i _ => x.length - (intOf i).toNat)
  case atStart => exact ⟨0, Nat.zero_le _, rfl, rfl, Below.refl _ _⟩
  case round =>
    obtain ⟨k, hk, rfl, rfl, hb⟩ := hrel
    by_cases hlt : k < x.length
    · obtain ⟨ur, hca, hcb, hur⟩ := hcells k hlt
      have hcell1 : wr.cell? ⟨b, o + k * 2, none⟩ = some (.string x[k].1) := (hb.cell (cell_lt hca)).trans hca
      have hcell2 : wr.cell? ⟨b, o + k * 2 + 1, none⟩ = some ur := (hb.cell (cell_lt hcb)).trans hcb
      obtain rfl := hp (by omega)
      clear hp hcells hca hcb
      obtain ⟨b7, o7, c7, p7, rfl, hl7, hc7, hp7, hcells7⟩ := hur.cells
      obtain ⟨hn6, ho12, hr12⟩ := longP_false (HLG.out k hlt)
      have hbA : Below w.heap.size w (wr.alloc (.cells #[.string x[k].1, .slice p7 x[k].2.length c7] 74)) := hb.alloc hb.size _
      have hk7 := keeps_of_below hbA
      have HBA := Lib.hid hbA
      have HJ : Hid (∀ m, m ≤ x[k].2.length → (joinT (x[k].2.take m) commaT).size ≤ 78) := fun m hm => joins_len hn6 hr12 m hm
      have HR12 := Lib.hid hr12
      have hjs := HJS.out k
      generalize hrs : x[k].2 = rs at *
      have HRS := Lib.hid hrs
      clear hrs hur hbA hr12
      by_cases hk0 : k = 0
      · have hk1 : (k : Int) ≤ 0 := by omega
        have HK0 := Lib.hid hk0
        clear hk0
        generalize hjp : joinP x k = JP at *
        have HJP := Lib.hid hjp
        clear hjp
        go_wp2
        · generalize hT : JP ++ (x[k].1 ++ ⟨#[58]⟩) = T at *
          have hTs : T.size ≤ 19000 := by
            have := HJS.out
            rw [← hT]
            have h1 : (⟨#[58]⟩ : ByteArray).size = 1 := rfl
            rw [ByteArray.size_append, ByteArray.size_append, h1]; omega
          have HT := Lib.hid hT
          clear hT
          go_loop [3, 6, 7, 27] (fun s _ _ i => ∃ m : Nat, m ≤ rs.length ∧ i = .int .i64 m ∧ s = .string (T ++ joinT (rs.take m) commaT)) (fun _ _ _ i => rs.length - (intOf i).toNat)
          case atStart => exact ⟨0, Nat.zero_le _, rfl, by rw [List.take_zero, joinT_nil, ByteArray.append_empty]⟩
          case round =>
            obtain ⟨m, hm, rfl, rfl⟩ := hrel
            by_cases hltm : m < rs.length
            · have hcell : (wr.alloc (.cells #[.string x[k].1, .slice p7 rs.length c7] 74)).cell? ⟨b7, o7 + m, none⟩ = some (.string rs[m]) := cell_keep hk7 (hcells7 m hltm)
              obtain rfl := hp7 (by omega)
              clear hcells7 hp7
              have hsz : (joinT (rs.take m) commaT).size ≤ 78 := HJ.out m hm
              have hsr : rs[m].size ≤ 12 := HR12.out _ (List.getElem_mem hltm)
              by_cases hm0 : m = 0
              · have hX : Hid (T ++ joinT (rs.take (m + 1)) commaT = T ++ joinT (rs.take m) commaT ++ rs[m]) := by
                  show _ = _
                  subst hm0
                  rw [List.take_succ_eq_append_getElem hltm, List.take_zero, List.nil_append, joinT_one, joinT_nil, ByteArray.append_empty]
                have hm1 : (m : Int) ≤ 0 := by omega
                clear hm0
                generalize joinT (rs.take m) commaT = J at *
                go_wp2
                go_round
                case rel => exact ⟨m + 1, by omega, by go_num, by rw [hX.out]⟩
                case measure => simp [intOf]; omega
              · have hm1 : 0 < (m : Int) := by omega
                have hX : Hid (T ++ joinT (rs.take (m + 1)) commaT = T ++ joinT (rs.take m) commaT ++ ⟨#[44]⟩ ++ rs[m]) := by
                  show _ = _
                  rw [List.take_succ_eq_append_getElem hltm, joinT_snoc _ _ _ (by
                    intro h
                    have := congrArg List.length h
                    rw [List.length_take, List.length_nil] at this
                    omega)]
                  simp only [ByteArray.append_assoc]
                  rfl
                generalize joinT (rs.take m) commaT = J at *
                go_wp2
                go_round
                case rel => exact ⟨m + 1, by omega, by go_num, by rw [hX.out]⟩
                case measure => simp [intOf]; omega
            · obtain rfl : m = rs.length := by omega
              clear hcells7 hp7
              have hX : Hid (T ++ joinT (rs.take rs.length) commaT = joinP x (k + 1)) := by
                show _ = _
                rw [List.take_length, ← HT.out, ← HRS.out]
                rw [← HJP.out]
                exact joinP_step0 hlt HK0.out
              generalize joinT (rs.take rs.length) commaT = J at *
              go_wp2
              go_roundw
              case rel => exact ⟨k + 1, by omega, by go_num, by rw [hX.out], HBA.out⟩
              case measure => simp [intOf]; omega
      · have hk1 : 0 < (k : Int) := by omega
        generalize hjp : joinP x k = JP at *
        have HJP := Lib.hid hjp
        clear hjp
        go_wp2
        · generalize hT : JP ++ ⟨#[59]⟩ ++ (x[k].1 ++ ⟨#[58]⟩) = T at *
          have hTs : T.size ≤ 19000 := by
            have := HJS.out
            rw [← hT]
            have h1 : (⟨#[58]⟩ : ByteArray).size = 1 := rfl
            have h2 : (⟨#[59]⟩ : ByteArray).size = 1 := rfl
            rw [ByteArray.size_append, ByteArray.size_append, ByteArray.size_append, h1, h2]; omega
          have HT := Lib.hid hT
          clear hT
          go_loop [3, 6, 7, 27] (fun s _ _ i => ∃ m : Nat, m ≤ rs.length ∧ i = .int .i64 m ∧ s = .string (T ++ joinT (rs.take m) commaT)) (fun _ _ _ i => rs.length - (intOf i).toNat)
          case atStart => exact ⟨0, Nat.zero_le _, rfl, by rw [List.take_zero, joinT_nil, ByteArray.append_empty]⟩
          case round =>
            obtain ⟨m, hm, rfl, rfl⟩ := hrel
            by_cases hltm : m < rs.length
            · have hcell : (wr.alloc (.cells #[.string x[k].1, .slice p7 rs.length c7] 74)).cell? ⟨b7, o7 + m, none⟩ = some (.string rs[m]) := cell_keep hk7 (hcells7 m hltm)
              obtain rfl := hp7 (by omega)
              clear hcells7 hp7
              have hsz : (joinT (rs.take m) commaT).size ≤ 78 := HJ.out m hm
              have hsr : rs[m].size ≤ 12 := HR12.out _ (List.getElem_mem hltm)
              by_cases hm0 : m = 0
              · have hX : Hid (T ++ joinT (rs.take (m + 1)) commaT = T ++ joinT (rs.take m) commaT ++ rs[m]) := by
                  show _ = _
                  subst hm0
                  rw [List.take_succ_eq_append_getElem hltm, List.take_zero, List.nil_append, joinT_one, joinT_nil, ByteArray.append_empty]
                have hm1 : (m : Int) ≤ 0 := by omega
                clear hm0
                generalize joinT (rs.take m) commaT = J at *
                go_wp2
                go_round
                case rel => exact ⟨m + 1, by omega, by go_num, by rw [hX.out]⟩
                case measure => simp [intOf]; omega
              · have hm1 : 0 < (m : Int) := by omega
                have hX : Hid (T ++ joinT (rs.take (m + 1)) commaT = T ++ joinT (rs.take m) commaT ++ ⟨#[44]⟩ ++ rs[m]) := by
                  show _ = _
                  rw [List.take_succ_eq_append_getElem hltm, joinT_snoc _ _ _ (by
                    intro h
                    have := congrArg List.length h
                    rw [List.length_take, List.length_nil] at this
                    omega)]
                  simp only [ByteArray.append_assoc]
                  rfl
                generalize joinT (rs.take m) commaT = J at *
                go_wp2
                go_round
                case rel => exact ⟨m + 1, by omega, by go_num, by rw [hX.out]⟩
                case measure => simp [intOf]; omega
            · obtain rfl : m = rs.length := by omega
              clear hcells7 hp7
              have hX : Hid (T ++ joinT (rs.take rs.length) commaT = joinP x (k + 1)) := by
                show _ = _
                rw [List.take_length, ← HT.out, ← HRS.out]
                rw [joinP_next hlt hk0, ← HJP.out]
                show joinP x k ++ semiT ++ (x[k].1 ++ colonT) ++ joinT x[k].2 commaT = joinP x k ++ semiT ++ (x[k].1 ++ colonT ++ joinT x[k].2 commaT)
                simp only [ByteArray.append_assoc]
              generalize joinT (rs.take rs.length) commaT = J at *
              go_wp2
              go_roundw
              case rel => exact ⟨k + 1, by omega, by go_num, by rw [hX.out], HBA.out⟩
              case measure => simp [intOf]; omega
    · obtain rfl : k = x.length := by omega
      have hX : Hid (openT ++ joinP x x.length ++ shutT = printT x) := by
        show _ = _
        unfold joinP printT; rw [List.take_length]
      have hjs := HJS.out x.length
      clear hp hcells
      generalize joinP x x.length = JP at *
      go_wp2
      go_ret
      exact ⟨by rw [← hX.out]; rfl, hb⟩
end Go.Proofs.Ytcobgbkoeehdnaa
