/-
  The walk of the law PrintAsks. Conditions: none but that the prints' lengths are int's, and that the list lies in memory.
-/
import Derived.Test.YtmhlgnhfbickdaaDoorP20
namespace Go.Proofs.YtmhlgnhfbickdaaDoor
set_option linter.unusedVariables false
set_option linter.unusedSimpArgs false
open Go.RowKit Go.Shelf

set_option maxRecDepth 100000 in
set_option maxHeartbeats 4000000 in
theorem printAsks_walk (s t : ByteArray) (A : Option Addr) (n cap : Nat) (f : Nat → Int) (p c : Int) (w : World) (hs : s.size ≤ 9223372036854775807) (ht : t.size ≤ 9223372036854775807) (hl : HoursAt w A n f) :
    Calls Tryd.prog 12 #[.string s, .string t, .slice A n cap, .agg #[.int .i64 p, .int .i64 c]] w fun e w' => e = .returned (.bool true) ∧ Below w.heap.size w w' := by
  have hb0 := hid (box_bel w (.cells #[.int .i64 p, .int .i64 c] 24))
  have HB := hid (Blk.new w 24 #[.int .i64 p, .int .i64 c])
  have HL := hid hl
  clear hl
  by_cases h1 : (200 : Int) < (s.size : Int)
  · clear hs ht HB
    go_enter Tryd.func12, Tryd.ntmps12
    go_wp2_with (first | (go_at_call 29; refine (long_any _ _).mono ?_; rintro e w' ⟨rfl, rfl⟩) | (go_at_call 20; refine (awake_any _).mono ?_; rintro e w' ⟨rfl, hb⟩))
    go_ret
    exact ⟨rfl, btr hb0.out hb (by simp)⟩
  · have d1 : decide ((200 : Int) < (s.size : Int)) = false := by simpa using h1
    by_cases h2 : (200 : Int) < (t.size : Int)
    · clear hs ht HB h1
      go_enter Tryd.func12, Tryd.ntmps12
      go_wp2_with fail
      refine (long_any _ _).mono ?_
      rintro e w' ⟨rfl, rfl⟩
      rw [d1]
      go_wp2_with (first | (go_at_call 29; refine (long_any _ _).mono ?_; rintro e w' ⟨rfl, rfl⟩) | (go_at_call 20; refine (awake_any _).mono ?_; rintro e w' ⟨rfl, hb⟩))
      go_ret
      exact ⟨rfl, btr hb0.out hb (by simp)⟩
    · have d2 : decide ((200 : Int) < (t.size : Int)) = false := by simpa using h2
      by_cases h3 : (200 : Int) < (n : Int)
      · clear hs ht HB h1 h2
        go_enter Tryd.func12, Tryd.ntmps12
        go_wp2_with fail
        refine (long_any _ _).mono ?_
        rintro e w' ⟨rfl, rfl⟩
        rw [d1]
        go_wp2_with fail
        refine (long_any _ _).mono ?_
        rintro e w' ⟨rfl, rfl⟩
        rw [d2]
        clear d1 d2
        go_wp2_with (go_at_call 20; refine (awake_any _).mono ?_; rintro e w' ⟨rfl, hb⟩)
        go_ret
        exact ⟨rfl, btr hb0.out hb (by simp)⟩
      · have HS := hid hs
        have HT := hid ht
        obtain ⟨xb, hxb⟩ : ∃ xb, (decide (codeV s t = 0) && isE s t n f) = xb := ⟨_, rfl⟩
        obtain ⟨cv, hcv⟩ : ∃ cv, codeV s t = cv := ⟨_, rfl⟩
        obtain ⟨m1, hm1⟩ : ∃ m1, (costV s t p c n f).1 = m1 := ⟨_, rfl⟩
        obtain ⟨m2, hm2⟩ : ∃ m2, (costV s t p c n f).2 = m2 := ⟨_, rfl⟩
        obtain ⟨bc, hbc⟩ : ∃ bc, (backV s t n f).2 = bc := ⟨_, rfl⟩
        have D1 : Hid (∀ wx, Below w.heap.size w wx → Calls Tryd.prog 46 #[.string s, .string t, .slice A n cap] wx fun e w' => e = .returned (.tuple #[.bool xb, .int .i64 cv]) ∧ Below wx.heap.size wx w') := hid fun wx hbx => by
          have h := are_any s t A n cap f wx HS.out HT.out (HL.out.below hbx)
          unfold AreR at h
          rw [hxb, hcv] at h
          exact h
        have D2 : Hid (∀ wx, Below w.heap.size w wx → Calls Tryd.prog 47 #[.string s, .string t, .slice A n cap] wx fun e w' => e = .returned (.tuple #[.bool xb, .int .i64 cv]) ∧ Below wx.heap.size wx w') := hid fun wx hbx => by
          have h := rAre_any s t A n cap f wx HS.out HT.out (HL.out.below hbx)
          unfold AreR at h
          rw [hxb, hcv] at h
          exact h
        have D3 : Hid (∀ wx, Below w.heap.size w wx → Calls Tryd.prog 24 #[.string s, .string t, .slice A n cap, .agg #[.int .i64 p, .int .i64 c]] wx fun e w' => e = .returned (.tuple #[.int .i64 m1, .int .i64 m2]) ∧ Below wx.heap.size wx w') := hid fun wx hbx => by
          have h := costOf_any s t A n cap f p c wx HS.out HT.out (HL.out.below hbx)
          unfold CostR at h
          rw [hm1, hm2] at h
          exact h
        have D4 : Hid (∀ wx, Below w.heap.size w wx → Calls Tryd.prog 48 #[.string s, .string t, .slice A n cap, .agg #[.int .i64 p, .int .i64 c]] wx fun e w' => e = .returned (.tuple #[.int .i64 m1, .int .i64 m2]) ∧ Below wx.heap.size wx w') := hid fun wx hbx => by
          have h := rCostOf_any s t A n cap f p c wx HS.out HT.out (HL.out.below hbx)
          unfold CostR at h
          rw [hm1, hm2] at h
          exact h
        have D5 : Hid (∀ wx, Below w.heap.size w wx → Calls Tryd.prog 49 #[.string s, .string t, .slice A n cap] wx fun e w' => ∃ A' m cap', e = .returned (.tuple #[.slice A' m cap', .int .i64 bc]) ∧ IntsV w' (.slice A' m cap') (backV s t n f).1 ∧ Below wx.heap.size wx w') := hid fun wx hbx => by
          have h := back_any s t A n cap f wx HS.out HT.out (HL.out.below hbx)
          unfold BackR at h
          rw [hbc] at h
          exact h
        have D6 : Hid (∀ wx, Below w.heap.size w wx → Calls Tryd.prog 50 #[.string s, .string t, .slice A n cap] wx fun e w' => ∃ A' m cap', e = .returned (.tuple #[.slice A' m cap', .int .i64 bc]) ∧ IntsV w' (.slice A' m cap') (backV s t n f).1 ∧ Below wx.heap.size wx w') := hid fun wx hbx => by
          have h := rBack_any s t A n cap f wx HS.out HT.out (HL.out.below hbx)
          unfold BackR at h
          rw [hbc] at h
          exact h
        clear hs ht h1 h2 hxb hcv hm1 hm2 hbc
        go_enter Tryd.func12, Tryd.ntmps12
        go_wp2_with fail
        refine (long_any _ _).mono ?_
        rintro e w' ⟨rfl, rfl⟩
        rw [d1]
        go_wp2_with fail
        refine (long_any _ _).mono ?_
        rintro e w' ⟨rfl, rfl⟩
        rw [d2]
        clear d1 d2
        go_wp2_with fail
        refine (D1.out _ hb0.out).mono ?_
        rintro e w1 ⟨rfl, hb⟩
        have K1 := hid (btr hb0.out hb hb0.out.size)
        have B1 := hid (HB.out.below' hb)
        clear hb
        go_wp2_with fail
        refine (D2.out _ K1.out).mono ?_
        rintro e w2 ⟨rfl, hb⟩
        have K2 := hid (btr K1.out hb K1.out.size)
        have B2 := hid (B1.out.below' hb)
        have c0 := B2.out.cell 0
        have c1 := B2.out.cell 1
        simp only [List.getElem?_toArray, List.getElem?_cons_zero, List.getElem?_cons_succ] at c0 c1
        clear hb
        go_wp2_with fail
        refine (D3.out _ K2.out).mono ?_
        rintro e w3 ⟨rfl, hb⟩
        have K3 := hid (btr K2.out hb K2.out.size)
        have B3 := hid (B2.out.below' hb)
        clear c0 c1
        have c0 := B3.out.cell 0
        have c1 := B3.out.cell 1
        simp only [List.getElem?_toArray, List.getElem?_cons_zero, List.getElem?_cons_succ] at c0 c1
        clear hb
        go_wp2_with fail
        refine (D4.out _ K3.out).mono ?_
        rintro e w4 ⟨rfl, hb⟩
        have K4 := hid (btr K3.out hb K3.out.size)
        clear hb c0 c1
        go_wp2_with fail
        refine (D5.out _ K4.out).mono ?_
        rintro e w5 ⟨A1, n1, cap1, rfl, hv, hb⟩
        have K5 := hid (btr K4.out hb K4.out.size)
        have V5 := hid hv
        clear hb hv
        go_wp2_with fail
        refine (D6.out _ K5.out).mono ?_
        rintro e w6 ⟨A2, n2, cap2, rfl, hv, hb⟩
        have K6 := hid (btr K5.out hb K5.out.size)
        have V6 := hid (And.intro (V5.out.below hb) hv)
        clear hb hv
        go_wp2_with fail
        refine (sameL_any _ _ _ _ _ V6.out.1 V6.out.2).mono ?_
        rintro e w7 ⟨rfl, hb⟩
        rw [decide_eq_true rfl]
        have K7 := hid (btr K6.out hb K6.out.size)
        clear hb
        go_wp2_with (go_at_call 20; refine (awake_any _).mono ?_; rintro e w8 ⟨rfl, hb8⟩)
        go_ret
        exact ⟨rfl, btr K7.out hb8 K7.out.size⟩
end Go.Proofs.YtmhlgnhfbickdaaDoor
