/-
  Distance and Ways of the program. Conditions: none but that the prints' lengths are int's.
-/
import Derived.Test.YtmhlgnhfbickdaaDoorP4
namespace Go.Proofs.YtmhlgnhfbickdaaDoor
set_option linter.unusedVariables false
set_option linter.unusedSimpArgs false
open Go.RowKit Go.Shelf

theorem codeP_zero {s t : ByteArray} {p c : Int} (h : codeP s t p c = 0) : s.size ≤ 20 ∧ t.size ≤ 20 ∧ (1 ≤ p ∧ p ≤ 9) ∧ 1 ≤ c ∧ c ≤ 9 := by
  unfold codeP at h
  split at h
  · rename_i h1
    split at h
    · rename_i h2
      rw [Bool.and_eq_true] at h1
      have h3 := vcB_true.1 h2
      exact ⟨(valB_true.1 h1.1).1, (valB_true.1 h1.2).1, h3.1, h3.2⟩
    · cases h
  · cases h
/-- what Distance or Ways answers -/
def numR (f : Nat × Nat → Nat) (w : World) (s t : ByteArray) (p c : Int) (e : Ending) (w' : World) : Prop :=
  e = .returned (.tuple #[.int .i64 (if codeP s t p c = 0 then (f (dw p.toNat c.toNat s.data.toList t.data.toList) : Int) else 0), .int .i64 (codeP s t p c)]) ∧ Below w.heap.size w w'

/-- the program: dist -/
theorem dist_any (s t : ByteArray) (p c : Int) (w : World) (hs : s.size ≤ 9223372036854775807) (ht : t.size ≤ 9223372036854775807) :
    Calls Tryd.prog 28 #[.string s, .string t, .agg #[.int .i64 p, .int .i64 c]] w (numR (fun x => x.1) w s t p c) := by
  have hb0 := box_bel w (.cells #[.int .i64 p, .int .i64 c] 24)
  go_enter Tryd.func28, Tryd.ntmps28
  go_wp2_with fail
  refine (newPair_any s t p c _ hs ht).mono ?_
  rintro e w1 ⟨x, y, u, v, rfl, h0, hb⟩
  have hb1 := box_trans _ hb
  clear hb hb0
  by_cases hz : codeP s t p c = 0
  · obtain ⟨rfl, rfl, rfl, rfl⟩ := h0 hz
    have h20 := codeP_zero hz
    have HZ := hid hz
    rw [hz]
    clear hz h0
    obtain ⟨p', rfl⟩ : ∃ p' : Nat, u = (p' : Int) := ⟨u.toNat, by omega⟩
    obtain ⟨c', rfl⟩ : ∃ c' : Nat, v = (c' : Int) := ⟨v.toNat, by omega⟩
    have HB := hid (btr hb1 (box_bel w1 (.cells #[.string x, .string y, .int .i64 (p' : Int), .int .i64 (c' : Int)] 72)) hb1.size)
    clear hb1
    go_wp2_with fail
    refine (rests_any x y p' c' _ h20.1 h20.2.1 (by omega) (by omega)).mono ?_
    rintro e w2 ⟨go, g, rfl, hgo, hg, hb2⟩
    have h1 := (hgo.cell 0).trans (rowsA_get (by omega))
    rw [if_pos (Nat.le_refl _)] at h1
    have hg0 := hg 0 (Nat.zero_le _)
    have h2 := restA_get (f := val x y p' c' 0) (N := y.size + 1) (k := 0) (by omega)
    have h3 := (hg0.cell 0).trans h2.1
    have h4 := (hg0.cell 1).trans h2.2
    have i1 : (0 : Int) < (x.size : Int) + 1 := by omega
    have i2 : (0 : Int) < (y.size : Int) + 1 := by omega
    have HB2 := hid (btr HB.out hb2 HB.out.size)
    clear hg hgo hg0 h2 hb2
    go_wp2
    refine bodyPost_ret (v := .tuple #[.int .i64 ((val x y p' c' 0 0).1 : Int), .int .i64 0]) (by simp [results, Tryd.results28, go_sem]) rfl ⟨?_, HB2.out⟩
    rw [HZ.out, if_pos rfl]
    rfl
  · have HZ := hid hz
    have hne : (codeP s t p c != 0) = true := by simpa using hz
    have HB := hid (btr hb1 (box_bel w1 (.cells #[.string x, .string y, .int .i64 u, .int .i64 v] 72)) hb1.size)
    clear hb1 hz h0
    go_wp2
    refine bodyPost_ret (v := .tuple #[.int .i64 0, .int .i64 (codeP s t p c)]) (by simp [results, Tryd.results28, go_sem]) rfl ⟨?_, HB.out⟩
    rw [if_neg HZ.out]

/-- the program: ways -/
theorem ways_any (s t : ByteArray) (p c : Int) (w : World) (hs : s.size ≤ 9223372036854775807) (ht : t.size ≤ 9223372036854775807) :
    Calls Tryd.prog 31 #[.string s, .string t, .agg #[.int .i64 p, .int .i64 c]] w (numR (fun x => x.2) w s t p c) := by
  have hb0 := box_bel w (.cells #[.int .i64 p, .int .i64 c] 24)
  go_enter Tryd.func31, Tryd.ntmps31
  go_wp2_with fail
  refine (newPair_any s t p c _ hs ht).mono ?_
  rintro e w1 ⟨x, y, u, v, rfl, h0, hb⟩
  have hb1 := box_trans _ hb
  clear hb hb0
  by_cases hz : codeP s t p c = 0
  · obtain ⟨rfl, rfl, rfl, rfl⟩ := h0 hz
    have h20 := codeP_zero hz
    have HZ := hid hz
    rw [hz]
    clear hz h0
    obtain ⟨p', rfl⟩ : ∃ p' : Nat, u = (p' : Int) := ⟨u.toNat, by omega⟩
    obtain ⟨c', rfl⟩ : ∃ c' : Nat, v = (c' : Int) := ⟨v.toNat, by omega⟩
    have HB := hid (btr hb1 (box_bel w1 (.cells #[.string x, .string y, .int .i64 (p' : Int), .int .i64 (c' : Int)] 72)) hb1.size)
    clear hb1
    go_wp2_with fail
    refine (rests_any x y p' c' _ h20.1 h20.2.1 (by omega) (by omega)).mono ?_
    rintro e w2 ⟨go, g, rfl, hgo, hg, hb2⟩
    have h1 := (hgo.cell 0).trans (rowsA_get (by omega))
    rw [if_pos (Nat.le_refl _)] at h1
    have hg0 := hg 0 (Nat.zero_le _)
    have h2 := restA_get (f := val x y p' c' 0) (N := y.size + 1) (k := 0) (by omega)
    have h3 := (hg0.cell 0).trans h2.1
    have h4 := (hg0.cell 1).trans h2.2
    have i1 : (0 : Int) < (x.size : Int) + 1 := by omega
    have i2 : (0 : Int) < (y.size : Int) + 1 := by omega
    have HB2 := hid (btr HB.out hb2 HB.out.size)
    clear hg hgo hg0 h2 hb2
    go_wp2
    refine bodyPost_ret (v := .tuple #[.int .i64 ((val x y p' c' 0 0).2 : Int), .int .i64 0]) (by simp [results, Tryd.results31, go_sem]) rfl ⟨?_, HB2.out⟩
    rw [HZ.out, if_pos rfl]
    rfl
  · have HZ := hid hz
    have hne : (codeP s t p c != 0) = true := by simpa using hz
    have HB := hid (btr hb1 (box_bel w1 (.cells #[.string x, .string y, .int .i64 u, .int .i64 v] 72)) hb1.size)
    clear hb1 hz h0
    go_wp2
    refine bodyPost_ret (v := .tuple #[.int .i64 0, .int .i64 (codeP s t p c)]) (by simp [results, Tryd.results31, go_sem]) rfl ⟨?_, HB.out⟩
    rw [if_neg HZ.out]
end Go.Proofs.YtmhlgnhfbickdaaDoor
