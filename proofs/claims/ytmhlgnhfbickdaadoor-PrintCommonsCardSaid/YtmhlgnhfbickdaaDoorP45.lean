/-
  The walk of the law PrintCommons. Conditions: none but that the prints' lengths are int's.
-/
import Derived.Test.YtmhlgnhfbickdaaDoorP24
import Derived.Test.YtmhlgnhfbickdaaDoorP44
namespace Go.Proofs.YtmhlgnhfbickdaaDoor
set_option linter.unusedVariables false
set_option linter.unusedSimpArgs false
open Go.RowKit Go.Shelf

set_option maxRecDepth 100000 in
set_option maxHeartbeats 2000000 in
theorem printCommons_walk (s t row : ByteArray) (w : World) (hs : s.size ≤ 9223372036854775807) (ht : t.size ≤ 9223372036854775807) (hr : row.size ≤ 9223372036854775807) :
    Calls Tryd.prog 14 #[.string s, .string t, .string row] w fun e w' => e = .returned (.bool true) ∧ Below w.heap.size w w' := by
  have HS := hid hs
  have HT := hid ht
  have HRW := hid hr
  by_cases hlong : 200 < (s.size : Int) ∨ 200 < (t.size : Int) ∨ 200 < (row.size : Int)
  · by_cases h1 : (200 : Int) < (s.size : Int)
    · clear hs ht hr hlong
      go_enter Tryd.func14, Tryd.ntmps14
      go_wp2_with (first | (go_at_call 29; refine (long_any _ _).mono ?_; rintro e w' ⟨rfl, rfl⟩) | (go_at_call 20; refine (awake_any _).mono ?_; rintro e w' ⟨rfl, hb⟩))
      go_ret
      exact ⟨rfl, hb⟩
    · have d1 : decide ((200 : Int) < (s.size : Int)) = false := by simpa using h1
      by_cases h2 : (200 : Int) < (t.size : Int)
      · clear hs ht hr hlong h1
        go_enter Tryd.func14, Tryd.ntmps14
        go_wp2_with fail
        refine (long_any _ _).mono ?_
        rintro e w' ⟨rfl, rfl⟩
        rw [d1]
        go_wp2_with (first | (go_at_call 29; refine (long_any _ _).mono ?_; rintro e w' ⟨rfl, rfl⟩) | (go_at_call 20; refine (awake_any _).mono ?_; rintro e w' ⟨rfl, hb⟩))
        go_ret
        exact ⟨rfl, hb⟩
      · have d2 : decide ((200 : Int) < (t.size : Int)) = false := by simpa using h2
        have h3 : (200 : Int) < (row.size : Int) := by rcases hlong with h | h | h; (· exact absurd h h1); (· exact absurd h h2); (· exact h)
        clear hs ht hr hlong h1 h2
        go_enter Tryd.func14, Tryd.ntmps14
        go_wp2_with fail
        refine (long_any _ _).mono ?_
        rintro e w' ⟨rfl, rfl⟩
        rw [d1]
        go_wp2_with fail
        refine (long_any _ _).mono ?_
        rintro e w' ⟨rfl, rfl⟩
        rw [d2]
        go_wp2_with (first | (go_at_call 29; refine (long_any _ _).mono ?_; rintro e w' ⟨rfl, rfl⟩) | (go_at_call 20; refine (awake_any _).mono ?_; rintro e w' ⟨rfl, hb⟩))
        go_ret
        exact ⟨rfl, hb⟩
  · have d1 : decide ((200 : Int) < (s.size : Int)) = false := by simp; omega
    have d2 : decide ((200 : Int) < (t.size : Int)) = false := by simp; omega
    have d3 : decide ((200 : Int) < (row.size : Int)) = false := by simp; omega
    clear hs ht hr hlong
    go_enter Tryd.func14, Tryd.ntmps14
    go_wp2_with fail
    refine (long_any _ _).mono ?_
    rintro e w' ⟨rfl, rfl⟩
    rw [d1]
    go_wp2_with fail
    refine (long_any _ _).mono ?_
    rintro e w' ⟨rfl, rfl⟩
    rw [d2]
    go_wp2_with fail
    refine (long_any _ _).mono ?_
    rintro e w' ⟨rfl, rfl⟩
    rw [d3]
    clear d1 d2 d3
    obtain ⟨cm, hcm⟩ : ∃ cm, (if codeV s t = 0 then comB s t else ByteArray.empty) = cm := ⟨_, rfl⟩
    obtain ⟨cv, hcv⟩ : ∃ cv, codeV s t = cv := ⟨_, rfl⟩
    have HC1 := hid fun wx => commonF_any s t wx HS.out HT.out
    have HC2 := hid fun wx => rCommonF_any s t wx HS.out HT.out
    unfold CommonR at HC1 HC2
    rw [hcm, hcv] at HC1 HC2
    obtain ⟨b, hb⟩ : ∃ b, (isCV s t row).1 = b := ⟨_, rfl⟩
    obtain ⟨d, hd⟩ : ∃ d, (isCV s t row).2 = d := ⟨_, rfl⟩
    have HI1 := hid fun wx => isCommon_any s t row wx HS.out HT.out HRW.out
    have HI2 := hid fun wx => rIsCommon_any s t row wx HS.out HT.out HRW.out
    unfold IsCR at HI1 HI2
    rw [hb, hd] at HI1 HI2
    obtain ⟨rv, hrv⟩ : ∃ rv, rowsV s = rv := ⟨_, rfl⟩
    obtain ⟨rc, hrc⟩ : ∃ rc, rowsC s = rc := ⟨_, rfl⟩
    have HR1 := hid fun wx => rows_any s wx HS.out
    have HR2 := hid fun wx => rRows_any s wx HS.out
    unfold RowsR at HR1 HR2
    rw [hrv, hrc] at HR1 HR2
    clear hcm hcv hb hd hrv hrc
    go_wp2_with fail
    refine (HC1.out _).mono ?_
    rintro e w1 ⟨rfl, hb⟩
    have K1 := hid hb
    clear hb
    go_wp2_with fail
    refine (HC2.out _).mono ?_
    rintro e w2 ⟨rfl, hb⟩
    have K2 := hid (btr K1.out hb K1.out.size)
    clear hb
    go_wp2_with fail
    refine (HI1.out _).mono ?_
    rintro e w3 ⟨rfl, hb⟩
    have K3 := hid (btr K2.out hb K2.out.size)
    clear hb
    go_wp2_with fail
    refine (HI2.out _).mono ?_
    rintro e w4 ⟨rfl, hb⟩
    have K4 := hid (btr K3.out hb K3.out.size)
    clear hb
    go_wp2_with fail
    refine (HR1.out _).mono ?_
    rintro e w5 ⟨rfl, hb⟩
    have K5 := hid (btr K4.out hb K4.out.size)
    clear hb
    go_wp2_with fail
    refine (HR2.out _).mono ?_
    rintro e w6 ⟨rfl, hb⟩
    have K6 := hid (btr K5.out hb K5.out.size)
    clear hb
    go_wp2_with (go_at_call 20; refine (awake_any _).mono ?_; rintro e w7 ⟨rfl, hb⟩)
    go_ret
    exact ⟨rfl, btr K6.out hb K6.out.size⟩
end Go.Proofs.YtmhlgnhfbickdaaDoor
