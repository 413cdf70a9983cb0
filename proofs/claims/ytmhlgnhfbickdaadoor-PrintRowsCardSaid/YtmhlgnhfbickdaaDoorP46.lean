/-
  The walk of the law PrintRows. Conditions: none but that the prints' lengths are int's, and the peak's number a byte's.
-/
import Derived.Test.YtmhlgnhfbickdaaDoorP26
import Derived.Test.YtmhlgnhfbickdaaDoorP41
import Derived.Test.YtmhlgnhfbickdaaDoorP44
namespace Go.Proofs.YtmhlgnhfbickdaaDoor
set_option linter.unusedVariables false
set_option linter.unusedSimpArgs false
open Go.RowKit Go.Shelf

theorem comB_list (s t : ByteArray) : (comB s t).data.toList = cmA s.data.toList t.data.toList 0 0 := rfl
theorem comB_size {s t : ByteArray} (h : valB s = true) : (comB s t).size = lcs s.data.toList t.data.toList := by
  have h1 := (cmA_is (S := s.data.toList) (T := t.data.toList) (i := 0) (k := 0) (abc_mem h)).1
  rw [← comB_list] at h1
  have h2 : (comB s t).data.toList.length = (comB s t).size := by simp
  rw [← h2, h1]
  rfl
theorem comB_val {s t : ByteArray} (h : valB s = true) : valB (comB s t) = true := by
  have h0 := valB_true.1 h
  have hsz := comB_size (t := t) h
  have hl := lcs_short s.data.toList t.data.toList
  have m1 : s.data.toList.length = s.size := by simp
  rw [valB_true]
  refine ⟨by omega, fun b hb => ?_⟩
  rw [comB_list] at hb
  have h1 := (cmA_is (S := s.data.toList) (T := t.data.toList) (i := 0) (k := 0) (abc_mem h)).2.1
  exact h0.2 b (h1.subset hb)
theorem comB_is {s t : ByteArray} (h1 : valB s = true) (h2 : valB t = true) : isCV s t (comB s t) = (true, 0) := by
  rw [isCV_ok h1 h2 (comB_val h1)]
  have h3 := (cmA_is (S := s.data.toList) (T := t.data.toList) (i := 0) (k := 0) (abc_mem h1)).2
  unfold wiB
  have h31 := h3.1
  have h32 := h3.2
  rw [List.drop_zero] at h31 h32
  rw [comB_list, (wth_iff _ _).2 h31, (wth_iff _ _).2 h32]
  rfl
theorem isC_cases {s t row : ByteArray} (h1 : valB s = true) (h2 : valB t = true) : isCV s t row = (false, 90) ∨ isCV s t row = (false, 0) ∨ (isCV s t row = (true, 0) ∧ row.size ≤ (comB s t).size) := by
  cases h3 : valB row
  · exact .inl (isCV_bad (.inr (.inr h3)))
  · have e := isCV_ok h1 h2 h3
    cases h4 : wiB row s && wiB row t
    · rw [h4] at e; exact .inr (.inl e)
    · rw [h4] at e
      refine .inr (.inr ⟨e, ?_⟩)
      rw [Bool.and_eq_true] at h4
      have h5 := lcs_max ((wth_iff _ _).1 h4.1) ((wth_iff _ _).1 h4.2)
      have m1 : row.data.toList.length = row.size := by simp
      rw [comB_size h1]
      omega
theorem row_dst {p ns nt D L : Nat} (h : D + 2 * p * L = p * (ns + nt)) : (p : Int) * ((ns : Int) + (nt : Int) - 2 * (L : Int)) = (D : Int) := by
  have h2 : ((D + 2 * p * L : Nat) : Int) = ((p * (ns + nt) : Nat) : Int) := by rw [h]
  simp only [Int.natCast_add, Int.natCast_mul] at h2
  have e : (p : Int) * ((ns : Int) + (nt : Int) - 2 * (L : Int)) = (p : Int) * ((ns : Int) + (nt : Int)) - 2 * (p : Int) * (L : Int) := by
    rw [Int.mul_sub]
    congr 1
    rw [← Int.mul_assoc, Int.mul_comm (p : Int) 2]
  rw [e, ← h2]
  exact Int.add_sub_cancel _ _
set_option maxRecDepth 100000 in
set_option maxHeartbeats 4000000 in
theorem printRows_walk (s t row : ByteArray) (a : Int) (w : World) (hs : s.size ≤ 9223372036854775807) (ht : t.size ≤ 9223372036854775807) (hr : row.size ≤ 9223372036854775807) (ha : (Lit.int .u8 a).wf = true) :
    Calls Tryd.prog 11 #[.string s, .string t, .string row, .int .u8 a] w fun e w' => e = .returned (.bool true) ∧ Below w.heap.size w w' := by
  obtain ⟨ha0, ha1⟩ := wf_u8 ha
  clear ha
  obtain ⟨q, hq⟩ : ∃ q : Nat, a % 4 = (q : Int) := ⟨(a % 4).toNat, by omega⟩
  have hq4 : q < 4 := by omega
  have hb0 := hid (((box_bel w (.cells #[.int .i64 (1 + (q : Int)), .int .i64 (2 * (1 + (q : Int)))] 24))).trans ((box_bel _ (.cells #[.string s, .string t] 9)).mono (by simp)))
  have HB := hid ((Blk.new w 24 #[.int .i64 (1 + (q : Int)), .int .i64 (2 * (1 + (q : Int)))]).alloc (.cells #[.string s, .string t] 9))
  have HSS := hid (two_at w s t (.cells #[.int .i64 (1 + (q : Int)), .int .i64 (2 * (1 + (q : Int)))] 24) hs ht)
  have HS := hid hs
  have HT := hid ht
  have HRW := hid hr
  clear hs ht hr
  cases hask : askB 2 (two s t) (1 + (q : Int)) (2 * (1 + (q : Int)))
  · have HA := hid hask
    clear hask
    go_enter Tryd.func11, Tryd.ntmps11
    go_wp2_with fail
    refine (lawAsked_any _ _ _ (two s t) _ _ _ HSS.out).mono ?_
    rintro e w1 ⟨rfl, hb1⟩
    rw [HA.out]
    have K1 := hid (btr hb0.out hb1 hb0.out.size)
    clear hb1
    go_wp2_with (go_at_call 20; refine (awake_any _).mono ?_; rintro e w2 ⟨rfl, hb2⟩)
    go_ret
    exact ⟨rfl, btr K1.out hb2 K1.out.size⟩
  · obtain ⟨v1, v2, v3⟩ := ask2 hask
    have HA := hid hask
    have s1 := (valB_true.1 v1).1
    have s2 := (valB_true.1 v2).1
    clear hask
    by_cases hrow : (200 : Int) < (row.size : Int)
    · clear v1 v2 v3 s1 s2
      go_enter Tryd.func11, Tryd.ntmps11
      go_wp2_with fail
      refine (lawAsked_any _ _ _ (two s t) _ _ _ HSS.out).mono ?_
      rintro e w1 ⟨rfl, hb1⟩
      rw [HA.out]
      have K1 := hid (btr hb0.out hb1 hb0.out.size)
      clear hb1
      go_wp2_with (first | (go_at_call 29; refine (long_any _ _).mono ?_; rintro e w' ⟨rfl, rfl⟩) | (go_at_call 20; refine (awake_any _).mono ?_; rintro e w2 ⟨rfl, hb2⟩))
      go_ret
      exact ⟨rfl, btr K1.out hb2 K1.out.size⟩
    · have d1 : decide ((200 : Int) < (row.size : Int)) = false := by simpa using hrow
      have hz := codeV_ok v1 v2
      have HC1 := hid fun wx => commonF_any s t wx HS.out HT.out
      unfold CommonR at HC1
      rw [hz, if_pos rfl] at HC1
      have hcv := comB_val (t := t) v1
      have hcz := comB_size (t := t) v1
      have HI1 := hid fun wx => isCommon_any s t (comB s t) wx HS.out HT.out (by have := (valB_true.1 hcv).1; omega)
      unfold IsCR at HI1
      rw [comB_is v1 v2] at HI1
      have HI2 := hid fun wx => isCommon_any s t row wx HS.out HT.out HRW.out
      unfold IsCR at HI2
      have hcs := isC_cases (row := row) v1 v2
      have hl1 := dst_lcs (p := q + 1) (c := 2 * (q + 1)) (by omega) s.data.toList t.data.toList
      have hl2 := dst_lcs (p := q + 1) (c := 9) (by omega) s.data.toList t.data.toList
      have m1 : s.data.toList.length = s.size := by simp
      have m2 : t.data.toList.length = t.size := by simp
      rw [m1, m2, ← hcz] at hl1 hl2
      have D1 := hid fun wx => dist_ok s t (q + 1) (2 * (q + 1)) wx v1 v2 (by rw [show ((q + 1 : Nat) : Int) = 1 + (q : Int) by omega, show ((2 * (q + 1) : Nat) : Int) = 2 * (1 + (q : Int)) by omega]; exact v3)
      have D2 := hid fun wx => dist_ok s t (q + 1) 9 wx v1 v2 (vcB_true.2 (by omega))
      obtain ⟨D, hD⟩ : ∃ D, dst (q + 1) (2 * (q + 1)) s.data.toList t.data.toList = D := ⟨_, rfl⟩
      have hDD : dst (q + 1) 9 s.data.toList t.data.toList = D := by omega
      have h360 : D ≤ 360 := by rw [← hDD]; exact dst_360 v1 v2 (by omega)
      rw [hD] at hl1 D1
      rw [hDD] at D2
      rw [show ((q + 1 : Nat) : Int) = 1 + (q : Int) by omega, show ((2 * (q + 1) : Nat) : Int) = 2 * (1 + (q : Int)) by omega] at D1
      rw [show ((q + 1 : Nat) : Int) = 1 + (q : Int) by omega, show ((9 : Nat) : Int) = 9 by rfl] at D2
      have eD := row_dst hl1
      rw [show ((q + 1 : Nat) : Int) = 1 + (q : Int) by omega] at eD
      obtain ⟨cm, hcm⟩ : ∃ cm, comB s t = cm := ⟨_, rfl⟩
      rw [hcm] at HC1 HI1 hcs eD hcv
      have hcl := (valB_true.1 hcv).1
      have HCS := hid hcs
      have HED := hid eD
      clear v1 v2 v3 hz hcv hcz hl1 hl2 m1 m2 hD hDD hrow hcs eD hcm
      go_enter Tryd.func11, Tryd.ntmps11
      go_wp2_with fail
      refine (lawAsked_any _ _ _ (two s t) _ _ _ HSS.out).mono ?_
      rintro e w1 ⟨rfl, hb1⟩
      rw [HA.out]
      have K1 := hid (btr hb0.out hb1 hb0.out.size)
      have B1 := hid (HB.out.below' hb1)
      clear hb1
      go_wp2_with fail
      refine (long_any _ _).mono ?_
      rintro e w' ⟨rfl, rfl⟩
      rw [d1]
      go_wp2_with fail
      refine (HC1.out _).mono ?_
      rintro e w2 ⟨rfl, hb⟩
      have K2 := hid (btr K1.out hb K1.out.size)
      have B2 := hid (B1.out.below' hb)
      clear hb
      go_wp2_with fail
      refine (HI1.out _).mono ?_
      rintro e w3 ⟨rfl, hb⟩
      have K3 := hid (btr K2.out hb K2.out.size)
      have B3 := hid (B2.out.below' hb)
      clear hb
      go_wp2_with fail
      refine (HI2.out _).mono ?_
      rintro e w4 ⟨rfl, hb⟩
      have K4 := hid (btr K3.out hb K3.out.size)
      have B4 := hid (B3.out.below' hb)
      clear hb d1
      obtain ⟨ob, od, hod, hob⟩ : ∃ ob od, isCV s t row = (ob, od) ∧ ((ob = false ∧ od = 90) ∨ (ob = false ∧ od = 0) ∨ (ob = true ∧ od = 0 ∧ row.size ≤ cm.size)) := by
        rcases HCS.out with h | h | ⟨h, h2⟩
        · exact ⟨_, _, h, .inl ⟨rfl, rfl⟩⟩
        · exact ⟨_, _, h, .inr (.inl ⟨rfl, rfl⟩)⟩
        · exact ⟨_, _, h, .inr (.inr ⟨rfl, rfl, h2⟩)⟩
      rw [hod]
      have c0 := B4.out.cell 0
      have c1 := B4.out.cell 1
      simp only [List.getElem?_toArray, List.getElem?_cons_zero, List.getElem?_cons_succ] at c0 c1
      have HOB := hid hob
      clear hod hob HCS
      go_wp2_with fail
      refine (D1.out _).mono ?_
      rintro e w5 ⟨rfl, hb⟩
      have K5 := hid (btr K4.out hb K4.out.size)
      have B5 := hid (B4.out.below' hb)
      clear hb c0 c1
      have c0 := B5.out.cell 0
      have c1 := B5.out.cell 1
      simp only [List.getElem?_toArray, List.getElem?_cons_zero, List.getElem?_cons_succ] at c0 c1
      have f1 := B5.out.frozen 1
      have B6 := hid (B5.out.set_ 1 (.int .i64 9))
      have K6 := hid (K5.out.setCell (p := ⟨w.heap.size, 1, none⟩) (Nat.le_refl _) (.int .i64 9))
      rcases HOB.out with ⟨rfl, rfl⟩ | ⟨rfl, rfl⟩ | ⟨rfl, rfl, hrs⟩
      · clear HOB
        go_wp2_with fail
        have c0 := B6.out.cell 0
        have c1 := B6.out.cell 1
        simp at c0 c1
        refine (D2.out _).mono ?_
        rintro e w6 ⟨rfl, hb⟩
        have K7 := hid (btr K6.out hb K6.out.size)
        have B7 := hid (B6.out.below' hb)
        clear hb f1 c0 c1
        have c0 := B7.out.cell 0
        simp at c0
        have eD := HED.out
        go_wp2_with (go_at_call 20; refine (awake_any _).mono ?_; rintro e w7 ⟨rfl, hb⟩)
        go_ret
        exact ⟨rfl, btr K7.out hb K7.out.size⟩
      · clear HOB
        go_wp2_with fail
        have c0 := B6.out.cell 0
        have c1 := B6.out.cell 1
        simp at c0 c1
        refine (D2.out _).mono ?_
        rintro e w6 ⟨rfl, hb⟩
        have K7 := hid (btr K6.out hb K6.out.size)
        have B7 := hid (B6.out.below' hb)
        clear hb f1 c0 c1
        have c0 := B7.out.cell 0
        simp at c0
        have eD := HED.out
        go_wp2_with (go_at_call 20; refine (awake_any _).mono ?_; rintro e w7 ⟨rfl, hb⟩)
        go_ret
        exact ⟨rfl, btr K7.out hb K7.out.size⟩
      · clear HOB
        have hrs2 : decide ((cm.size : Int) < (row.size : Int)) = false := by simp; omega
        have hrs3 : decide (cm.size < row.size) = false := by simp; omega
        clear hrs
        go_wp2_with fail
        have c0 := B6.out.cell 0
        have c1 := B6.out.cell 1
        simp at c0 c1
        refine (D2.out _).mono ?_
        rintro e w6 ⟨rfl, hb⟩
        have K7 := hid (btr K6.out hb K6.out.size)
        have B7 := hid (B6.out.below' hb)
        clear hb f1 c0 c1
        have c0 := B7.out.cell 0
        simp at c0
        have eD := HED.out
        go_wp2_with (go_at_call 20; refine (awake_any _).mono ?_; rintro e w7 ⟨rfl, hb⟩)
        go_ret
        exact ⟨rfl, btr K7.out hb K7.out.size⟩
end Go.Proofs.YtmhlgnhfbickdaaDoor
