/-
  The walk of the law PrintProves. Conditions: none but that the prints' lengths are int's, and that the table lies in memory.
-/
import Derived.Test.YtmhlgnhfbickdaaDoorP37
import Derived.Test.YtmhlgnhfbickdaaDoorP38
namespace Go.Proofs.YtmhlgnhfbickdaaDoor
set_option linter.unusedVariables false
set_option linter.unusedSimpArgs false
open Go.RowKit Go.Shelf

set_option maxRecDepth 100000 in
set_option maxHeartbeats 2000000 in
theorem printProves_walk (s t : ByteArray) (A : Option Addr) (n cap : Nat) (m : Nat → Nat) (f : Nat → Nat → Int) (p c x : Int) (w : World) (hs : s.size ≤ 9223372036854775807) (ht : t.size ≤ 9223372036854775807) (hl : TabAt w A n m f) :
    Calls Tryd.prog 10 #[.string s, .string t, .slice A n cap, .agg #[.int .i64 p, .int .i64 c], .int .i64 x] w fun e w' => e = .returned (.bool true) ∧ Below w.heap.size w w' := by
  have hb0 := hid (box_bel w (.cells #[.int .i64 p, .int .i64 c] 24))
  have HB := hid (Blk.new w 24 #[.int .i64 p, .int .i64 c])
  have HL := hid hl
  have HL0 := hid (hl.below hb0.out)
  clear hl
  by_cases hlong : 200 < (s.size : Int) ∨ 200 < (t.size : Int) ∨ wideB n m = true
  · by_cases h1 : (200 : Int) < (s.size : Int)
    · clear hs ht HB hlong
      go_enter Tryd.func10, Tryd.ntmps10
      go_wp2_with (first | (go_at_call 29; refine (long_any _ _).mono ?_; rintro e w' ⟨rfl, rfl⟩) | (go_at_call 20; refine (awake_any _).mono ?_; rintro e w' ⟨rfl, hb⟩))
      go_ret
      exact ⟨rfl, btr hb0.out hb (by simp)⟩
    · have d1 : decide ((200 : Int) < (s.size : Int)) = false := by simpa using h1
      by_cases h2 : (200 : Int) < (t.size : Int)
      · clear hs ht HB hlong h1
        go_enter Tryd.func10, Tryd.ntmps10
        go_wp2_with fail
        refine (long_any _ _).mono ?_
        rintro e w' ⟨rfl, rfl⟩
        rw [d1]
        go_wp2_with (first | (go_at_call 29; refine (long_any _ _).mono ?_; rintro e w' ⟨rfl, rfl⟩) | (go_at_call 20; refine (awake_any _).mono ?_; rintro e w' ⟨rfl, hb⟩))
        go_ret
        exact ⟨rfl, btr hb0.out hb (by simp)⟩
      · have d2 : decide ((200 : Int) < (t.size : Int)) = false := by simpa using h2
        have HW : Hid (wideB n m = true) := hid (by rcases hlong with h | h | h; (· exact absurd h h1); (· exact absurd h h2); (· exact h))
        clear hs ht HB hlong h1 h2
        go_enter Tryd.func10, Tryd.ntmps10
        go_wp2_with fail
        refine (long_any _ _).mono ?_
        rintro e w' ⟨rfl, rfl⟩
        rw [d1]
        go_wp2_with fail
        refine (long_any _ _).mono ?_
        rintro e w' ⟨rfl, rfl⟩
        rw [d2]
        clear d1 d2
        go_wp2_with fail
        refine (wide_any A n cap m f _ HL0.out).mono ?_
        rintro e w' ⟨rfl, rfl⟩
        rw [HW.out]
        go_wp2_with (go_at_call 20; refine (awake_any _).mono ?_; rintro e w' ⟨rfl, hb⟩)
        go_ret
        exact ⟨rfl, btr hb0.out hb (by simp)⟩
  · have d1 : decide ((200 : Int) < (s.size : Int)) = false := by simp; omega
    have d2 : decide ((200 : Int) < (t.size : Int)) = false := by simp; omega
    have HW : Hid (wideB n m = false) := hid (by cases hw : wideB n m; (· rfl); (· exact absurd (.inr (.inr hw)) hlong))
    have HS := hid hs
    have HT := hid ht
    clear hs ht hlong
    go_enter Tryd.func10, Tryd.ntmps10
    go_wp2_with fail
    refine (long_any _ _).mono ?_
    rintro e w' ⟨rfl, rfl⟩
    rw [d1]
    go_wp2_with fail
    refine (long_any _ _).mono ?_
    rintro e w' ⟨rfl, rfl⟩
    rw [d2]
    clear d1 d2
    go_wp2_with fail
    refine (wide_any A n cap m f _ HL0.out).mono ?_
    rintro e w' ⟨rfl, rfl⟩
    rw [HW.out]
    have c0 := HB.out.cell 0
    have c1 := HB.out.cell 1
    simp only [List.getElem?_toArray, List.getElem?_cons_zero, List.getElem?_cons_succ] at c0 c1
    go_wp2_with fail
    refine (proves_any s t A n cap m f p c x _ HS.out HT.out HL0.out).mono ?_
    rintro e w1 ⟨rfl, hb1⟩
    have K1 := hid (btr hb0.out hb1 hb0.out.size)
    have B1 := hid (HB.out.below' hb1)
    have c0 := B1.out.cell 0
    have c1 := B1.out.cell 1
    simp only [List.getElem?_toArray, List.getElem?_cons_zero, List.getElem?_cons_succ] at c0 c1
    clear hb1
    go_wp2_with fail
    refine (rProves_any s t A n cap m f p c x _ HS.out HT.out (HL.out.below K1.out)).mono ?_
    rintro e w2 ⟨rfl, hb2⟩
    have K2 := hid (btr K1.out hb2 K1.out.size)
    clear hb2 c0 c1
    go_wp2_with (go_at_call 20; refine (awake_any _).mono ?_; rintro e w4 ⟨rfl, hb4⟩)
    go_ret
    exact ⟨rfl, btr K2.out hb4 K2.out.size⟩
end Go.Proofs.YtmhlgnhfbickdaaDoor
