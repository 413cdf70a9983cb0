/-
  The walk of the law PrintOthers. Conditions: the prints lie in memory.
-/
import Derived.Test.YtmhlgnhfbickdaaDoorP13
import Derived.Test.YtmhlgnhfbickdaaDoorP52
namespace Go.Proofs.YtmhlgnhfbickdaaDoor
set_option linter.unusedVariables false
set_option linter.unusedSimpArgs false
open Go.RowKit Go.Shelf

set_option maxRecDepth 100000 in
set_option maxHeartbeats 4000000 in
theorem printOthers_walk (A : Option Addr) (n cap : Nat) (ss : Nat → ByteArray) (s : ByteArray) (p c most : Int) (w : World) (hss : StrsAt w A n ss) (hs : s.size ≤ 9223372036854775807) :
    Calls Tryd.prog 15 #[.slice A n cap, .string s, .agg #[.int .i64 p, .int .i64 c], .int .i64 most] w fun e w' => e = .returned (.bool true) ∧ Below w.heap.size w w' := by
  have hb0 := hid (box_bel w (.cells #[.int .i64 p, .int .i64 c] 24))
  have HB := hid (Blk.new w 24 #[.int .i64 p, .int .i64 c])
  have HL := hid hss
  have HL0 := hid (hss.below hb0.out)
  have HS := hid hs
  clear hss hs
  by_cases hlong : manB n ss = true ∨ 200 < (s.size : Int)
  · cases hm : manB n ss
    · have h2 : (200 : Int) < (s.size : Int) := by rw [hm] at hlong; rcases hlong with h | h; (· cases h); (· exact h)
      have HM := hid hm
      clear hlong hm
      go_enter Tryd.func15, Tryd.ntmps15
      go_wp2_with fail
      refine (many_any A n cap ss _ HL0.out).mono ?_
      rintro e w' ⟨rfl, rfl⟩
      rw [HM.out]
      go_wp2_with (first | (go_at_call 29; refine (long_any _ _).mono ?_; rintro e w' ⟨rfl, rfl⟩) | (go_at_call 20; refine (awake_any _).mono ?_; rintro e w' ⟨rfl, hb⟩))
      go_ret
      exact ⟨rfl, btr hb0.out hb (by simp)⟩
    · have HM := hid hm
      clear hlong hm
      go_enter Tryd.func15, Tryd.ntmps15
      go_wp2_with fail
      refine (many_any A n cap ss _ HL0.out).mono ?_
      rintro e w' ⟨rfl, rfl⟩
      rw [HM.out]
      go_wp2_with (go_at_call 20; refine (awake_any _).mono ?_; rintro e w' ⟨rfl, hb⟩)
      go_ret
      exact ⟨rfl, btr hb0.out hb (by simp)⟩
  · have HM : Hid (manB n ss = false) := hid (by cases hm : manB n ss; (· rfl); (· exact absurd (.inl hm) hlong))
    have d1 : decide ((200 : Int) < (s.size : Int)) = false := by simp; omega
    clear hlong
    have HN1 := hid fun wx h => nearest_any A n cap ss s p c wx h HS.out
    have HN2 := hid fun wx h => rNearest_any A n cap ss s p c wx h HS.out
    unfold NearR at HN1 HN2
    generalize nearI (disC n ss s p c true) (dsL n (dsF ss s p c)) = i1 at HN1 HN2
    generalize nearM (disC n ss s p c true) (dsL n (dsF ss s p c)) = m1 at HN1 HN2
    generalize disC n ss s p c true = c1 at HN1 HN2
    have HM1 := hid fun wx h => middle_any A n cap ss p c wx h
    have HM2 := hid fun wx h => rMiddle_any A n cap ss p c wx h
    unfold NearR at HM1 HM2
    generalize nearI (midC n ss p c) (dsL n (mdF n ss p c)) = i2 at HM1 HM2
    generalize nearM (midC n ss p c) (dsL n (mdF n ss p c)) = m2 at HM1 HM2
    generalize midC n ss p c = c2 at HM1 HM2
    have HW1 := hid fun wx h => withinF_any A n cap ss s p c most wx h HS.out
    have HW2 := hid fun wx h => rWithinF_any A n cap ss s p c most wx h HS.out
    unfold DisR at HW1 HW2
    generalize (if disC n ss s p c (btw 0 most 1000) = 0 then nearL n (dsF ss s p c) most else []) = l at HW1 HW2
    generalize disC n ss s p c (btw 0 most 1000) = c3 at HW1 HW2
    go_enter Tryd.func15, Tryd.ntmps15
    go_wp2_with fail
    refine (many_any A n cap ss _ HL0.out).mono ?_
    rintro e w' ⟨rfl, rfl⟩
    rw [HM.out]
    go_wp2_with fail
    refine (long_any _ _).mono ?_
    rintro e w' ⟨rfl, rfl⟩
    rw [d1]
    clear d1
    have e0 := HB.out.cell 0
    have e1 := HB.out.cell 1
    simp only [List.getElem?_toArray, List.getElem?_cons_zero, List.getElem?_cons_succ] at e0 e1
    go_wp2_with fail
    refine (HN1.out _ HL0.out).mono ?_
    rintro e w1 ⟨rfl, hb⟩
    have K1 := hid (btr hb0.out hb hb0.out.size)
    have B1 := hid (HB.out.below' hb)
    clear hb e0 e1
    have e0 := B1.out.cell 0
    have e1 := B1.out.cell 1
    simp only [List.getElem?_toArray, List.getElem?_cons_zero, List.getElem?_cons_succ] at e0 e1
    go_wp2_with fail
    refine (HN2.out _ (HL.out.below K1.out)).mono ?_
    rintro e w2 ⟨rfl, hb⟩
    have K2 := hid (btr K1.out hb K1.out.size)
    have B2 := hid (B1.out.below' hb)
    clear hb e0 e1
    have e0 := B2.out.cell 0
    have e1 := B2.out.cell 1
    simp only [List.getElem?_toArray, List.getElem?_cons_zero, List.getElem?_cons_succ] at e0 e1
    go_wp2_with fail
    refine (HM1.out _ (HL.out.below K2.out)).mono ?_
    rintro e w3 ⟨rfl, hb⟩
    have K3 := hid (btr K2.out hb K2.out.size)
    have B3 := hid (B2.out.below' hb)
    clear hb e0 e1
    have e0 := B3.out.cell 0
    have e1 := B3.out.cell 1
    simp only [List.getElem?_toArray, List.getElem?_cons_zero, List.getElem?_cons_succ] at e0 e1
    go_wp2_with fail
    refine (HM2.out _ (HL.out.below K3.out)).mono ?_
    rintro e w4 ⟨rfl, hb⟩
    have K4 := hid (btr K3.out hb K3.out.size)
    have B4 := hid (B3.out.below' hb)
    clear hb e0 e1
    have e0 := B4.out.cell 0
    have e1 := B4.out.cell 1
    simp only [List.getElem?_toArray, List.getElem?_cons_zero, List.getElem?_cons_succ] at e0 e1
    go_wp2_with fail
    refine (HW1.out _ (HL.out.below K4.out)).mono ?_
    rintro e w5 ⟨A5, m5, cap5, rfl, hv, hb⟩
    have K5 := hid (btr K4.out hb K4.out.size)
    have B5 := hid (B4.out.below' hb)
    have V5 := hid hv
    clear hb e0 e1 hv
    have e0 := B5.out.cell 0
    have e1 := B5.out.cell 1
    simp only [List.getElem?_toArray, List.getElem?_cons_zero, List.getElem?_cons_succ] at e0 e1
    go_wp2_with fail
    refine (HW2.out _ (HL.out.below K5.out)).mono ?_
    rintro e w6 ⟨A6, m6, cap6, rfl, hv, hb⟩
    have K6 := hid (btr K5.out hb K5.out.size)
    have V6 := hid (And.intro (V5.out.below hb) hv)
    clear hb e0 e1 hv
    go_wp2_with fail
    refine (sameL_any _ _ _ _ _ V6.out.1 V6.out.2).mono ?_
    rintro e w7 ⟨rfl, hb⟩
    rw [decide_eq_true rfl]
    have K7 := hid (btr K6.out hb K6.out.size)
    clear hb
    go_wp2_with (go_at_call 20; refine (awake_any _).mono ?_; rintro e w8 ⟨rfl, hb⟩)
    go_ret
    exact ⟨rfl, btr K7.out hb K7.out.size⟩
end Go.Proofs.YtmhlgnhfbickdaaDoor
