/-
  The walk of the law PrintEdits. Conditions: none but that the prints' lengths are int's.
-/
import Derived.Test.YtmhlgnhfbickdaaDoorP15
namespace Go.Proofs.YtmhlgnhfbickdaaDoor
set_option linter.unusedVariables false
set_option linter.unusedSimpArgs false
open Go.RowKit Go.Shelf

set_option maxRecDepth 100000 in
set_option maxHeartbeats 2000000 in
theorem printEdits_walk (s t : ByteArray) (p c : Int) (w : World) (hs : s.size ≤ 9223372036854775807) (ht : t.size ≤ 9223372036854775807) :
    Calls Tryd.prog 6 #[.string s, .string t, .agg #[.int .i64 p, .int .i64 c]] w fun e w' => e = .returned (.bool true) ∧ Below w.heap.size w w' := by
  have hb0 := hid (box_bel w (.cells #[.int .i64 p, .int .i64 c] 24))
  have HB := hid (Blk.new w 24 #[.int .i64 p, .int .i64 c])
  by_cases hlong : 200 < (s.size : Int) ∨ 200 < (t.size : Int)
  · by_cases h1 : (200 : Int) < (s.size : Int)
    · clear hs ht HB hlong
      go_enter Tryd.func6, Tryd.ntmps6
      go_wp2_with (first | (go_at_call 29; refine (long_any _ _).mono ?_; rintro e w' ⟨rfl, rfl⟩) | (go_at_call 20; refine (awake_any _).mono ?_; rintro e w' ⟨rfl, hb⟩))
      go_ret
      exact ⟨rfl, btr hb0.out hb (by simp)⟩
    · have d1 : decide ((200 : Int) < (s.size : Int)) = false := by simpa using h1
      have h2 : (200 : Int) < (t.size : Int) := by omega
      clear hs ht HB hlong h1
      go_enter Tryd.func6, Tryd.ntmps6
      go_wp2_with fail
      refine (long_any _ _).mono ?_
      rintro e w' ⟨rfl, rfl⟩
      rw [d1]
      go_wp2_with (first | (go_at_call 29; refine (long_any _ _).mono ?_; rintro e w' ⟨rfl, rfl⟩) | (go_at_call 20; refine (awake_any _).mono ?_; rintro e w' ⟨rfl, hb⟩))
      go_ret
      exact ⟨rfl, btr hb0.out hb (by simp)⟩
  · have d1 : decide ((200 : Int) < (s.size : Int)) = false := by simp; omega
    have d2 : decide ((200 : Int) < (t.size : Int)) = false := by simp; omega
    have HS := hid hs
    have HT := hid ht
    clear hs ht hlong
    go_enter Tryd.func6, Tryd.ntmps6
    go_wp2_with fail
    refine (long_any _ _).mono ?_
    rintro e w' ⟨rfl, rfl⟩
    rw [d1]
    go_wp2_with fail
    refine (long_any _ _).mono ?_
    rintro e w' ⟨rfl, rfl⟩
    rw [d2]
    clear d1 d2
    have c0 := HB.out.cell 0
    have c1 := HB.out.cell 1
    simp only [List.getElem?_toArray, List.getElem?_cons_zero, List.getElem?_cons_succ] at c0 c1
    go_wp2_with fail
    refine (edits_any s t p c _ HS.out HT.out).mono ?_
    rintro e w1 ⟨A1, n1, cap1, rfl, hv1, hb1⟩
    have K1 := hid (btr hb0.out hb1 hb0.out.size)
    have B1 := hid (HB.out.below' hb1)
    have V1 := hid hv1
    have c0 := B1.out.cell 0
    have c1 := B1.out.cell 1
    simp only [List.getElem?_toArray, List.getElem?_cons_zero, List.getElem?_cons_succ] at c0 c1
    clear hb1 hv1
    go_wp2_with fail
    refine (rEdits_any s t p c _ HS.out HT.out).mono ?_
    rintro e w2 ⟨A2, n2, cap2, rfl, hv2, hb2⟩
    have K2 := hid (btr K1.out hb2 K1.out.size)
    have V2 := hid (And.intro (V1.out.below hb2) hv2)
    clear hb2 hv2 c0 c1
    go_wp2_with fail
    refine (sameL_any _ _ _ _ _ V2.out.1 V2.out.2).mono ?_
    rintro e w3 ⟨rfl, hb3⟩
    rw [decide_eq_true rfl]
    have K3 := hid (btr K2.out hb3 K2.out.size)
    clear hb3
    go_wp2_with (go_at_call 20; refine (awake_any _).mono ?_; rintro e w4 ⟨rfl, hb4⟩)
    go_ret
    exact ⟨rfl, btr K3.out hb4 K3.out.size⟩
end Go.Proofs.YtmhlgnhfbickdaaDoor
