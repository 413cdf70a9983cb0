/-
  Common rows: next, within, IsCommon of both. Conditions: stated at each.
-/
import Derived.Test.YtmhlgnhfbickdaaDoorMath8
namespace Go.Proofs.YtmhlgnhfbickdaaDoor
set_option linter.unusedVariables false
set_option linter.unusedSimpArgs false
open Go.RowKit Go.Shelf

theorem nxt_stop {S : List UInt8} {j : Nat} {x : UInt8} (h : S[j]? = some x) : nxt S j x = j := by
  unfold nxt
  rw [drop_cons' h]
  unfold fnd
  rw [if_pos rfl]
  rfl
theorem nxt_step {S : List UInt8} {j : Nat} {x y : UInt8} (h : S[j]? = some y) (hn : y ≠ x) : nxt S j x = nxt S (j + 1) x := by
  unfold nxt
  rw [drop_cons' h]
  conv => lhs; unfold fnd
  rw [if_neg hn]
  omega
theorem nxt_end {S : List UInt8} {j : Nat} (x : UInt8) (h : S.length ≤ j) : nxt S j x = j := by
  unfold nxt
  rw [List.drop_of_length_le h]
  rfl
set_option maxHeartbeats 1000000 in
/-- next -/
theorem next_any (s : ByteArray) (i : Nat) (x : UInt8) (w : World) (hs : s.size ≤ 1000000) (hi : i ≤ s.size) :
    Calls Tryd.prog 75 #[.string s, .int .i64 (i : Int), .int .u8 (x.toNat : Int)] w fun e w' => e = .returned (.int .i64 (nxt s.data.toList i x : Int)) ∧ w = w' := by
  have HLN : Hid (s.data.toList.length = s.size) := hid (by simp)
  go_enter Tryd.func75, Tryd.ntmps75
  go_wp2
  go_loop [1] (fun y => ∃ j : Nat, j ≤ s.size ∧ y = .int .i64 (j : Int) ∧ Hid (nxt s.data.toList i x = nxt s.data.toList j x)) (fun y => s.size - (intOf y).toNat)
  case atStart => exact ⟨i, hi, rfl, hid rfl⟩
  case round =>
    obtain ⟨j, hj, rfl, HN⟩ := hrel
    by_cases hlt : j < s.size
    · have hg : Hid (s.data.toList[j]? = some s[j]) := hid (by rw [List.getElem?_eq_getElem (by simpa using hlt)]; rfl)
      by_cases he : s[j] = x
      · have HF : Hid ((nxt s.data.toList i x : Int) = (j : Int)) := hid (by rw [HN.out, nxt_stop (by rw [hg.out, he])])
        have d1 : ((s[j].toNat : Int) != (x.toNat : Int)) = false := by rw [he]; simp
        clear he
        go_wp2
        go_ret
        exact ⟨ret_int HF.out.symm, rfl⟩
      · have d1 : ((s[j].toNat : Int) != (x.toNat : Int)) = true := by
          simp only [bne_iff_ne, ne_eq]
          exact fun h => he (UInt8.toNat_inj.1 (by omega))
        have HE := hid (HN.out.trans (nxt_step hg.out he))
        clear he
        go_wp2
        go_round
        case rel => exact ⟨j + 1, by omega, by go_num, HE⟩
        case measure => simp [intOf]; omega
    · obtain rfl : j = s.size := by omega
      have HF : Hid ((nxt s.data.toList i x : Int) = (s.size : Int)) := hid (by rw [HN.out, nxt_end x (by rw [HLN.out]; exact Nat.le_refl _)])
      go_wp2
      go_ret
      exact ⟨ret_int HF.out.symm, rfl⟩
theorem wth_step {R S : List UInt8} {k a : Nat} {r : UInt8} (hr : R[k]? = some r) : wth (R.drop k) (S.drop a) = if nxt S a r < S.length then wth (R.drop (k + 1)) (S.drop (nxt S a r + 1)) else false := by
  rw [drop_cons' hr]
  conv => lhs; unfold wth
  rw [aft_nxt]
  by_cases h : nxt S a r < S.length
  · rw [if_pos h, if_pos h]
  · rw [if_neg h, if_neg h]
/-- is a row one of a print -/
def wiB (row s : ByteArray) : Bool := wth row.data.toList s.data.toList
set_option maxHeartbeats 1000000 in
/-- within -/
theorem within_any (row s : ByteArray) (w : World) (hr : row.size ≤ 1000000) (hs : s.size ≤ 1000000) :
    Calls Tryd.prog 76 #[.string row, .string s] w fun e w' => e = .returned (.bool (wiB row s)) ∧ w = w' := by
  have HLN : Hid (s.data.toList.length = s.size) := hid (by simp)
  have HLR : Hid (row.data.toList.length = row.size) := hid (by simp)
  go_enter Tryd.func76, Tryd.ntmps76
  go_wp2
  go_loop [4, 5, 9] (fun z x y => ∃ a k : Nat, z = .bool false ∧ a ≤ s.size ∧ k ≤ row.size ∧ x = .int .i64 (a : Int) ∧ y = .int .i64 (k : Int) ∧ Hid (wiB row s = wth (row.data.toList.drop k) (s.data.toList.drop a))) (fun _ _ y => row.size - (intOf y).toNat)
  case atStart => exact ⟨0, 0, rfl, by omega, by omega, rfl, rfl, hid rfl⟩
  case round =>
    obtain ⟨a, k, rfl, ha, hk, rfl, rfl, HW⟩ := hrel
    by_cases hlt : k < row.size
    · have hg : row.data.toList[k]? = some row[k] := by rw [List.getElem?_eq_getElem (by simpa using hlt)]; rfl
      obtain ⟨r, hrr⟩ : ∃ r, row[k] = r := ⟨_, rfl⟩
      have hst := wth_step (S := s.data.toList) (a := a) hg
      rw [HLN.out, hrr] at hst
      have hnx := nxt_le (S := s.data.toList) r (by rw [HLN.out]; exact ha)
      rw [HLN.out] at hnx
      have HX := hid (next_any s a r w hs ha)
      obtain ⟨nx, hx⟩ : ∃ nx, nxt s.data.toList a r = nx := ⟨_, rfl⟩
      rw [hx] at hst hnx HX
      rw [hg.symm.trans hg] at hg
      clear hg hx
      by_cases hin : nx < s.size
      · have HS := hid (HW.out.trans (hst.trans (if_pos hin)))
        clear hst
        go_wp2_with (go_at_call 75; refine (HX.out).mono ?_; rintro e w' ⟨rfl, rfl⟩)
        go_round
        case rel => exact ⟨nx + 1, k + 1, rfl, by omega, by omega, by go_num, by go_num, HS⟩
        case measure => simp [intOf]; omega
      · have HS := hid (HW.out.trans (hst.trans (if_neg hin)))
        clear hst
        go_wp2_with (go_at_call 75; refine (HX.out).mono ?_; rintro e w' ⟨rfl, rfl⟩)
        go_ret
        exact ⟨ret_bool HS.out.symm, rfl⟩
    · obtain rfl : k = row.size := by omega
      have HS : Hid (wiB row s = true) := hid (by rw [HW.out, List.drop_of_length_le (by rw [HLR.out]; exact Nat.le_refl _)]; rfl)
      go_wp2
      go_ret
      exact ⟨ret_bool HS.out.symm, rfl⟩
theorem wth2_step {R S : List UInt8} {k a : Nat} {x : UInt8} (hx : S[k]? = some x) : wth2 (R.drop a) (S.drop k) = if R[a]? = some x then wth2 (R.drop (a + 1)) (S.drop (k + 1)) else wth2 (R.drop a) (S.drop (k + 1)) := by
  rw [drop_cons' hx]
  by_cases h : a < R.length
  · have hr : R[a]? = some R[a] := List.getElem?_eq_getElem h
    rw [drop_cons' hr, wth2_cons, hr]
    by_cases e : R[a] = x
    · rw [if_pos e, if_pos (by rw [e])]
    · rw [if_neg e, if_neg (fun h => e (by injection h)), ← drop_cons' hr]
  · rw [List.drop_of_length_le (by omega), List.getElem?_eq_none (by omega), if_neg (by simp), wth2_nil, wth2_nil]
theorem wi_wth2 (row s : ByteArray) : wiB row s = decide (wth2 row.data.toList s.data.toList = []) := by
  unfold wiB
  rw [Bool.eq_iff_iff, wth_iff, decide_eq_true_iff, wth2_iff]
set_option maxHeartbeats 1000000 in
/-- within of the reference -/
theorem rWithin_any (row s : ByteArray) (w : World) (hr : row.size ≤ 1000000) (hs : s.size ≤ 1000000) :
    Calls Tryd.prog 79 #[.string row, .string s] w fun e w' => e = .returned (.bool (wiB row s)) ∧ Below w.heap.size w w' := by
  have HLN : Hid (s.data.toList.length = s.size) := hid (by simp)
  have HLR : Hid (row.data.toList.length = row.size) := hid (by simp)
  go_enter Tryd.func79, Tryd.ntmps79
  go_wp2
  go_loopw [5, 9] (fun x y wr => ∃ a k : Nat, a ≤ row.size ∧ k ≤ s.size ∧ x = .int .i64 (a : Int) ∧ y = .int .i64 (k : Int) ∧ Hid (wth2 row.data.toList s.data.toList = wth2 (row.data.toList.drop a) (s.data.toList.drop k)) ∧ Hid (Below w.heap.size w wr)) (fun _ y _ => s.size - (intOf y).toNat)
  case atStart => exact ⟨0, 0, by omega, by omega, rfl, rfl, hid rfl, hid (Below.refl _ _)⟩
  case round =>
    obtain ⟨a, k, ha, hk, rfl, rfl, HW, HB⟩ := hrel
    by_cases hlt : k < s.size
    · have hg : s.data.toList[k]? = some s[k] := by rw [List.getElem?_eq_getElem (by simpa using hlt)]; rfl
      have hst := wth2_step (R := row.data.toList) (a := a) hg
      by_cases hal : a < row.size
      · have hg2 : row.data.toList[a]? = some row[a] := by rw [List.getElem?_eq_getElem (by simpa using hal)]; rfl
        rw [hg2] at hst
        by_cases he : row[a] = s[k]
        · have HS := hid (HW.out.trans (hst.trans (if_pos (by rw [he]))))
          have d1 : ((row[a].toNat : Int) == (s[k].toNat : Int)) = true := by rw [he]; simp
          clear hst hg hg2 he
          go_wp2
          go_quiet (fail)
          go_wp2
          go_roundw
          case rel => exact ⟨a + 1, k + 1, by omega, by omega, by go_num, by go_num, HS, hid (bdn HB.out _)⟩
          case measure => simp [intOf]; omega
        · have HS := hid (HW.out.trans (hst.trans (if_neg (fun h => he (by injection h)))))
          have d1 : ((row[a].toNat : Int) == (s[k].toNat : Int)) = false := by
            simp only [beq_eq_false_iff_ne, ne_eq]
            exact fun h => he (UInt8.toNat_inj.1 (by omega))
          clear hst hg hg2 he
          go_wp2
          go_quiet (fail)
          go_wp2
          go_roundw
          case rel => exact ⟨a, k + 1, by omega, by omega, by go_num, by go_num, HS, hid (bdn HB.out _)⟩
          case measure => simp [intOf]; omega
      · have HS := hid (HW.out.trans (hst.trans (if_neg (by rw [List.getElem?_eq_none (by rw [HLR.out]; omega)]; simp))))
        have dal : decide (a < row.size) = false := by simp; omega
        clear hst hg hal
        go_wp2
        go_quiet (fail)
        go_wp2
        go_roundw
        case rel => exact ⟨a, k + 1, by omega, by omega, by go_num, by go_num, HS, hid (bdn HB.out _)⟩
        case measure => simp [intOf]; omega
    · obtain rfl : k = s.size := by omega
      have hfin : wth2 row.data.toList s.data.toList = row.data.toList.drop a := by
        rw [HW.out, List.drop_of_length_le (l := s.data.toList) (by rw [HLN.out]; exact Nat.le_refl _)]
        cases row.data.toList.drop a <;> rfl
      by_cases hal : a = row.size
      · have HS : Hid (wiB row s = true) := hid (by rw [wi_wth2, hfin, hal, List.drop_of_length_le (by rw [HLR.out]; exact Nat.le_refl _)]; rfl)
        have d1 : (a : Int) = (row.size : Int) := by omega
        clear hfin hal
        go_wp2
        go_ret
        exact ⟨ret_bool HS.out.symm, HB.out⟩
      · have HS : Hid (wiB row s = false) := hid (by
          rw [wi_wth2, hfin, decide_eq_false_iff_not]
          intro h
          have := congrArg List.length h
          rw [List.length_drop, HLR.out] at this
          simp at this
          omega)
        have d1 : ((a : Int) == (row.size : Int)) = false := by simp; omega
        clear hfin hal
        go_wp2
        go_ret
        exact ⟨ret_bool HS.out.symm, HB.out⟩
/-- what IsCommon answers -/
def isCV (s t row : ByteArray) : Bool × Int := if valB s && (valB t && valB row) then (wiB row s && wiB row t, 0) else (false, 90)
theorem isCV_bad {s t row : ByteArray} (h : valB s = false ∨ valB t = false ∨ valB row = false) : isCV s t row = (false, 90) := by
  unfold isCV
  rcases h with h | h | h <;> simp [h]
theorem isCV_ok {s t row : ByteArray} (h1 : valB s = true) (h2 : valB t = true) (h3 : valB row = true) : isCV s t row = (wiB row s && wiB row t, 0) := by
  unfold isCV
  simp [h1, h2, h3]
end Go.Proofs.YtmhlgnhfbickdaaDoor
