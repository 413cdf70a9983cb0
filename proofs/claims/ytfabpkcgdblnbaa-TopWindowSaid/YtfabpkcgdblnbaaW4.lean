/-
  Part, of the program and of the reference: what each returns. Conditions: the hours lie in memory.
-/
import Derived.Test.YtfabpkcgdblnbaaW3
namespace Go.Proofs.Ytfabpkcgdblnbaa
set_option linter.unusedVariables false
set_option linter.unusedSimpArgs false
open Go.RowKit

/-- numerator, denominator, error -/
def partOf (P : Int) (n : Nat) (h : Nat → Int) : Int × Int × Int :=
  if winB P n h 3600 then ((n : Int) / (Int.gcd P n : Int), P / (Int.gcd P n : Int), 0) else (0, 0, 50)
theorem wPart_any (P : Int) (A : Option Addr) (n c : Nat) (h : Nat → Int) (w : World) (hh : HoursAt w A n h) :
    Calls Try.prog 48 #[.agg #[.int .i64 P, .slice A n c]] w fun e w' => e = .returned (.tuple #[.agg #[.int .i64 (partOf P n h).1, .int .i64 (partOf P n h).2.1], .int .i64 (partOf P n h).2.2]) ∧ Below w.heap.size w w' := by
  have hn := hh.1
  cases hw : winB P n h 3600
  · rw [show partOf P n h = (0, 0, 50) by simp [partOf, hw]]
    go_enter Try.func48, Try.ntmps48
    go_wp2_with (go_at_call 86; refine (isWin_any _ _ _ _ _ _ _ ((hh.alloc _).alloc _) (by omega)).mono ?_; rintro e w1 ⟨rfl, hb1⟩; have hcc := bcell hb1; have hs1 : w.heap.size + 1 < w1.heap.size := (by have := hb1.size; simp at this; omega))
    refine bodyPost_ret (v := .tuple #[.agg #[.int .i64 0, .int .i64 0], .int .i64 50]) (by simp [results, Try.results48, go_sem, hcc.1, hcc.2]) rfl ⟨rfl, ?_⟩
    exact (box_trans _ (box_trans _ hb1)).setCell (p := ⟨w.heap.size + 1, 0, none⟩) (by simp) _ |>.setCell (p := ⟨w.heap.size + 1, 1, none⟩) (by simp) _
  · have hv := (winB_true.1 hw).1
    have hg1 := gcd_pos P n (by omega)
    have hg2 := gcd_le P n (by omega)
    rw [show partOf P n h = ((n : Int) / (Int.gcd P n : Int), P / (Int.gcd P n : Int), 0) by simp [partOf, hw]]
    have hz : ((Int.gcd P n : Int) == 0) = false := by simp; omega
    have hq1 : 0 ≤ (n : Int) / (Int.gcd P n : Int) := Int.ediv_nonneg (by omega) (by omega)
    have hq2 : (n : Int) / (Int.gcd P n : Int) ≤ n := Int.ediv_le_self _ (by omega)
    go_enter Try.func48, Try.ntmps48
    go_wp2_with (first
      | (go_at_call 86; refine (isWin_any _ _ _ _ _ _ _ ((hh.alloc _).alloc _) (by omega)).mono ?_; rintro e w1 ⟨rfl, hb1⟩; have hcc := bcell hb1; have hs1 : w.heap.size + 1 < w1.heap.size := (by have := hb1.size; simp at this; omega))
      | (go_at_call 87; refine (divisor_any _ _ _ (by omega) (by omega) (by omega) (by omega)).mono ?_; rintro e w2 ⟨rfl, m, rfl⟩))
    go_region
    go_wp2
    refine bodyPost_ret (v := .tuple #[.agg #[.int .i64 ((n : Int) / (Int.gcd P n : Int)), .int .i64 (P / (Int.gcd P n : Int))], .int .i64 0]) (by simp [results, Try.results48, go_sem, hcc.1, hcc.2]) rfl ⟨rfl, ?_⟩
    exact (bdn (box_trans _ (box_trans _ hb1)) _).setCell (p := ⟨w.heap.size + 1, 0, none⟩) (by simp) _ |>.setCell (p := ⟨w.heap.size + 1, 1, none⟩) (by simp) _

theorem rPart_any (P : Int) (A : Option Addr) (n c : Nat) (h : Nat → Int) (w : World) (hh : HoursAt w A n h) :
    Calls Try.prog 49 #[.agg #[.int .i64 P, .slice A n c]] w fun e w' => e = .returned (.tuple #[.agg #[.int .i64 (partOf P n h).1, .int .i64 (partOf P n h).2.1], .int .i64 (partOf P n h).2.2]) ∧ Below w.heap.size w w' := by
  have hn := hh.1
  cases hw : winB P n h 3600
  · rw [show partOf P n h = (0, 0, 50) by simp [partOf, hw]]
    go_enter Try.func49, Try.ntmps49
    go_wp2_with (go_at_call 35; refine (rWide_any _ _ _ _ _ _ ((hh.alloc _).alloc _)).mono ?_; rintro e w1 ⟨rfl, hb1⟩; have hcc := bcell hb1; have hs1 : w.heap.size + 1 < w1.heap.size := (by have := hb1.size; simp at this; omega))
    refine bodyPost_ret (v := .tuple #[.agg #[.int .i64 0, .int .i64 0], .int .i64 50]) (by simp [results, Try.results49, go_sem, hcc.1, hcc.2]) rfl ⟨rfl, ?_⟩
    exact (box_trans _ (box_trans _ hb1)).setCell (p := ⟨w.heap.size + 1, 0, none⟩) (by simp) _ |>.setCell (p := ⟨w.heap.size + 1, 1, none⟩) (by simp) _
  · have hv := (winB_true.1 hw).1
    have hg1 := gcd_pos P n (by omega)
    have hg2 := gcd_le P n (by omega)
    rw [show partOf P n h = ((n : Int) / (Int.gcd P n : Int), P / (Int.gcd P n : Int), 0) by simp [partOf, hw]]
    have hz : ((Int.gcd P n : Int) == 0) = false := by simp; omega
    have hq1 : 0 ≤ (n : Int) / (Int.gcd P n : Int) := Int.ediv_nonneg (by omega) (by omega)
    have hq2 : (n : Int) / (Int.gcd P n : Int) ≤ n := Int.ediv_le_self _ (by omega)
    have hz0 : (Int.gcd P n : Int) ≠ 0 := by omega
    go_enter Try.func49, Try.ntmps49
    go_wp2_with (go_at_call 35; refine (rWide_any _ _ _ _ _ _ ((hh.alloc _).alloc _)).mono ?_; rintro e w1 ⟨rfl, hb1⟩; have hcc := bcell hb1; have hs1 : w.heap.size + 1 < w1.heap.size := (by have := hb1.size; simp at this; omega))
    go_quiet (fail)
    go_wp2
    go_loopw [4, 5] (fun x y wr => ∃ p q : Int, 0 ≤ p ∧ p ≤ 9223372036854775807 ∧ 0 ≤ q ∧ q ≤ 9223372036854775807 ∧ x = .int .i64 p ∧ y = .int .i64 q ∧ Int.gcd p q = Int.gcd P n ∧ ∃ m, wr = w1.drewN m) (fun _ y _ => (intOf y).toNat)
    case atStart => exact ⟨n, P, by omega, by omega, by omega, by omega, rfl, rfl, by rw [Int.gcd_comm], nq, rfl⟩
    case round =>
      obtain ⟨p, q, hp, hp', hq, hq', rfl, rfl, hg, m, rfl⟩ := hrel
      by_cases hzq : 0 < q
      · have HG := hid hg
        clear hg
        have hne : (q == 0) = false := by simp; omega
        have hne' : (q != 0) = true := by simp; omega
        have m1 := Int.emod_nonneg p (b := q) (by omega)
        have m2 := Int.emod_lt_of_pos p hzq
        go_wp2
        go_quiet (fail)
        go_wp2
        go_roundw
        case rel => exact ⟨q, p % q, by omega, by omega, by omega, by omega, rfl, rfl, by rw [gcd_step p q hp (by omega)]; exact HG.out, m + nq, by simp⟩
        case measure => simp [intOf]; omega
      · obtain rfl : q = 0 := by omega
        have hp2 : p = (Int.gcd P n : Int) := by rw [← hg, gcd_end p hp]
        subst hp2
        clear hg
        go_wp2
        go_region
        go_wp2
        refine bodyPost_ret (v := .tuple #[.agg #[.int .i64 ((n : Int) / (Int.gcd P n : Int)), .int .i64 (P / (Int.gcd P n : Int))], .int .i64 0]) (by simp [results, Try.results49, go_sem, hcc.1, hcc.2]) rfl ⟨rfl, ?_⟩
        exact (bdn (box_trans _ (box_trans _ hb1)) _).setCell (p := ⟨w.heap.size + 1, 0, none⟩) (by simp) _ |>.setCell (p := ⟨w.heap.size + 1, 1, none⟩) (by simp) _
end Go.Proofs.Ytfabpkcgdblnbaa
