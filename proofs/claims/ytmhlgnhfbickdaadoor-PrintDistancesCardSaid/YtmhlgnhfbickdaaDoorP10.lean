/-
  The walk of the law PrintDistances. Conditions: none but that the prints' lengths are int's.
-/
import Derived.Test.YtmhlgnhfbickdaaDoorP9
namespace Go.Proofs.YtmhlgnhfbickdaaDoor
set_option linter.unusedVariables false
set_option linter.unusedSimpArgs false
open Go.RowKit Go.Shelf

set_option maxRecDepth 100000 in
set_option maxHeartbeats 2000000 in
theorem printDistances_walk (s t : ByteArray) (p c : Int) (w : World) (hs : s.size ≤ 9223372036854775807) (ht : t.size ≤ 9223372036854775807) :
    Calls Tryd.prog 5 #[.string s, .string t, .agg #[.int .i64 p, .int .i64 c]] w fun e w' => e = .returned (.bool true) ∧ Below w.heap.size w w' := by
  have hb0 := hid (box_bel w (.cells #[.int .i64 p, .int .i64 c] 24))
  have hB := Blk.new w 24 #[.int .i64 p, .int .i64 c]
  by_cases hlong : 200 < (s.size : Int) ∨ 200 < (t.size : Int)
  · by_cases h1 : (200 : Int) < (s.size : Int)
    · have HS := hid hs
      have HT := hid ht
      have HB := hid hB
      clear hs ht hB hlong
      go_enter Tryd.func5, Tryd.ntmps5
      go_wp2_with (first | (go_at_call 29; refine (long_any _ _).mono ?_; rintro e w' ⟨rfl, rfl⟩) | (go_at_call 20; refine (awake_any _).mono ?_; rintro e w' ⟨rfl, hb⟩))
      go_ret
      exact ⟨rfl, btr hb0.out hb (by simp)⟩
    · have d1 : decide ((200 : Int) < (s.size : Int)) = false := by simpa using h1
      have h2 : (200 : Int) < (t.size : Int) := by omega
      have HS := hid hs
      have HT := hid ht
      have HB := hid hB
      clear hs ht hB hlong h1
      go_enter Tryd.func5, Tryd.ntmps5
      go_wp2_with fail
      refine (long_any _ _).mono ?_
      rintro e w' ⟨rfl, rfl⟩
      rw [d1]
      go_wp2_with (first | (go_at_call 29; refine (long_any _ _).mono ?_; rintro e w' ⟨rfl, rfl⟩) | (go_at_call 20; refine (awake_any _).mono ?_; rintro e w' ⟨rfl, hb⟩))
      go_ret
      exact ⟨rfl, btr hb0.out hb (by simp)⟩
  · have d1 : decide ((200 : Int) < (s.size : Int)) = false := by simp; omega
    have d2 : decide ((200 : Int) < (t.size : Int)) = false := by simp; omega
    have HS := hid hs
    have HT := hid ht
    clear hs ht hlong
    go_enter Tryd.func5, Tryd.ntmps5
    go_wp2_with fail
    refine (long_any _ _).mono ?_
    rintro e w' ⟨rfl, rfl⟩
    rw [d1]
    go_wp2_with fail
    refine (long_any _ _).mono ?_
    rintro e w' ⟨rfl, rfl⟩
    rw [d2]
    clear d1 d2
    obtain ⟨w0, hw0⟩ : ∃ w0, w.alloc (.cells #[.int .i64 p, .int .i64 c] 24) = w0 := ⟨_, rfl⟩
    have hl : w.heap.size < w0.heap.size := by rw [← hw0]; simp
    rw [hw0] at hB hb0 ⊢
    clear hw0
    have HB := hid hB
    have c0 := hB.cell 0
    have c1 := hB.cell 1
    simp only [List.getElem?_toArray, List.getElem?_cons_zero, List.getElem?_cons_succ] at c0 c1
    clear hB
    obtain ⟨n1, hn1⟩ : ∃ n1, (if codeP s t p c = 0 then ((dw p.toNat c.toNat s.data.toList t.data.toList).1 : Int) else 0) = n1 := ⟨_, rfl⟩
    obtain ⟨n2, hn2⟩ : ∃ n2, (if codeP s t p c = 0 then ((dw p.toNat c.toNat s.data.toList t.data.toList).2 : Int) else 0) = n2 := ⟨_, rfl⟩
    obtain ⟨cd, hcd⟩ : ∃ cd, codeP s t p c = cd := ⟨_, rfl⟩
    have D1 : Hid (∀ wx, Calls Tryd.prog 28 #[.string s, .string t, .agg #[.int .i64 p, .int .i64 c]] wx fun e w' => e = .returned (.tuple #[.int .i64 n1, .int .i64 cd]) ∧ Below wx.heap.size wx w') := hid fun wx => by
      have h := dist_any s t p c wx HS.out HT.out
      unfold numR at h
      rw [hn1, hcd] at h
      exact h
    have D2 : Hid (∀ wx, Calls Tryd.prog 30 #[.string s, .string t, .agg #[.int .i64 p, .int .i64 c]] wx fun e w' => e = .returned (.tuple #[.int .i64 n1, .int .i64 cd]) ∧ Below wx.heap.size wx w') := hid fun wx => by
      have h := rdist_any s t p c wx HS.out HT.out
      unfold numR at h
      rw [hn1, hcd] at h
      exact h
    have D3 : Hid (∀ wx, Calls Tryd.prog 31 #[.string s, .string t, .agg #[.int .i64 p, .int .i64 c]] wx fun e w' => e = .returned (.tuple #[.int .i64 n2, .int .i64 cd]) ∧ Below wx.heap.size wx w') := hid fun wx => by
      have h := ways_any s t p c wx HS.out HT.out
      unfold numR at h
      rw [hn2, hcd] at h
      exact h
    have D4 : Hid (∀ wx, Calls Tryd.prog 32 #[.string s, .string t, .agg #[.int .i64 p, .int .i64 c]] wx fun e w' => e = .returned (.tuple #[.int .i64 n2, .int .i64 cd]) ∧ Below wx.heap.size wx w') := hid fun wx => by
      have h := rways_any s t p c wx HS.out HT.out
      unfold numR at h
      rw [hn2, hcd] at h
      exact h
    clear hn1 hn2 hcd
    go_wp2_with fail
    refine (D1.out _).mono ?_
    rintro e w1 ⟨rfl, hb1⟩
    have HB1 := hid (HB.out.below' hb1)
    have K1 := hid (btr hb0.out hb1 hb0.out.size)
    have c0 := HB1.out.cell 0
    have c1 := HB1.out.cell 1
    simp only [List.getElem?_toArray, List.getElem?_cons_zero, List.getElem?_cons_succ] at c0 c1
    clear hb1
    go_wp2_with fail
    refine (D2.out _).mono ?_
    rintro e w2 ⟨rfl, hb1⟩
    have HB2 := hid (HB1.out.below' hb1)
    have K2 := hid (btr K1.out hb1 K1.out.size)
    have c0 := HB2.out.cell 0
    have c1 := HB2.out.cell 1
    simp only [List.getElem?_toArray, List.getElem?_cons_zero, List.getElem?_cons_succ] at c0 c1
    clear hb1
    go_wp2_with fail
    refine (D3.out _).mono ?_
    rintro e w3 ⟨rfl, hb1⟩
    have HB3 := hid (HB2.out.below' hb1)
    have K3 := hid (btr K2.out hb1 K2.out.size)
    have c0 := HB3.out.cell 0
    have c1 := HB3.out.cell 1
    simp only [List.getElem?_toArray, List.getElem?_cons_zero, List.getElem?_cons_succ] at c0 c1
    clear hb1
    go_wp2_with fail
    refine (D4.out _).mono ?_
    rintro e w4 ⟨rfl, hb1⟩
    have HB4 := hid (HB3.out.below' hb1)
    have K4 := hid (btr K3.out hb1 K3.out.size)
    have hl4 := HB4.out.lt
    have e0 := HB4.out.cell 0
    have e1 := HB4.out.cell 1
    simp only [List.getElem?_toArray, List.getElem?_cons_zero, List.getElem?_cons_succ] at e0 e1
    have g0 := Later.cells (B := w4.heap.size) (w := w4) e0 hl4
    have g1 := Later.cells (B := w4.heap.size) (w := w4) e1 hl4
    clear hb1
    have A1 := hid fun x : Later w4.heap.size w4 => Calls.later_of (v := .bool (valB s)) (x := x) (Nat.le_refl _) (valid_any s x.up HS.out)
    have A2 := hid fun x : Later w4.heap.size w4 => Calls.later_of (v := .bool (valB s)) (x := x) (Nat.le_refl _) ((rValid_any s x.up HS.out).mono fun e w' h => ⟨h.1, by obtain rfl := h.2; exact Below.refl _ _⟩)
    have A3 := hid fun x : Later w4.heap.size w4 => Calls.later_of (v := .bool (vcB p c)) (x := x) (Nat.le_refl _) (vCosts_any p c x.up)
    have A4 := hid fun x : Later w4.heap.size w4 => Calls.later_of (v := .bool (vcB p c)) (x := x) (Nat.le_refl _) (rVCosts_any p c x.up)
    have A5 := hid fun x : Later w4.heap.size w4 => Calls.later_of (v := .bool true) (x := x) (Nat.le_refl _) (awake_any x.up)
    clear D1 D2 D3 D4 HB HB1 HB2 HB3 K1 K2 K3
    go_wp2_with fail
    refine wp_region_later w4.heap.size (by kernel_rfl) (by kernel_rfl) ?_
    repeat (go_big_quiet_step ((first | (go_at_call 33; exact A1.out _) | (go_at_call 21; exact A2.out _) | (go_at_call 34; exact A3.out _) | (go_at_call 19; exact A4.out _) | (go_at_call 20; exact A5.out _))))
    refine wpQuiet_nil ?_
    rintro _ ⟨⟨w5, hb5⟩, rfl⟩
    go_wp2
    go_ret
    exact ⟨rfl, btr K4.out hb5 K4.out.size⟩
end Go.Proofs.YtmhlgnhfbickdaaDoor
