/-
  Long, Awake, and the law WindowMeets: it returns true, whatever the input. Conditions: the rounds lie in memory.
-/
import Derived.Test.YtfabpkcgdblnbaaR5
namespace Go.Proofs.Ytfabpkcgdblnbaa
set_option linter.unusedVariables false
set_option linter.unusedSimpArgs false
open Go.RowKit

def awA (i : Nat) : Int := match i with | 0 => 2 | 1 => 3 | _ => 2
def awE (i : Nat) : Int := match i with | 0 => 3 | 1 => 5 | _ => 7
theorem awake_meet : meetOf awA awE 3 = (23, 105, 0) := by decide +kernel
theorem awake_rounds (w : World) : RoundsAt (w.alloc (.cells #[.int .i64 2, .int .i64 3, .int .i64 3, .int .i64 5, .int .i64 2, .int .i64 7] 36)) (some ⟨w.heap.size, 0, none⟩) 3 awA awE := by
  refine ⟨by omega, w.heap.size, 0, fun _ => by simp, fun _ => rfl, fun i hi => ?_⟩
  have hc := fun j => World.cell?_alloc_new w #[.int .i64 2, .int .i64 3, .int .i64 3, .int .i64 5, .int .i64 2, .int .i64 7] 36 j
  match i, hi with
  | 0, _ => exact ⟨hc 0, hc 1⟩
  | 1, _ => exact ⟨hc 2, hc 3⟩
  | 2, _ => exact ⟨hc 4, hc 5⟩
theorem awake_any (w : World) : Calls Try.prog 19 #[] w fun e w' => e = .returned (.bool true) ∧ Below w.heap.size w w' := by
  have hb0 : Below w.heap.size w (w.alloc (.cells #[.int .i64 2, .int .i64 3, .int .i64 3, .int .i64 5, .int .i64 2, .int .i64 7] 36)) := (Below.refl _ _).alloc (Nat.le_refl _) _
  go_enter Try.func19, Try.ntmps19
  go_wp2_with (go_at_call 20; refine (meet_any _ _ _ _ _ _ (awake_rounds w)).mono ?_; rintro e w1 ⟨rfl, hb1⟩; rw [awake_meet])
  go_ret
  exact ⟨rfl, btr hb0 hb1 (by simp)⟩
theorem long_any (A : Option Addr) (n c : Nat) (w : World) : Calls Try.prog 18 #[.slice A n c] w fun e w' => e = .returned (.bool (decide ((40 : Int) < n))) ∧ w = w' := by
  go_enter Try.func18, Try.ntmps18
  go_wp2
  go_ret
  exact ⟨rfl, rfl⟩

/-- what a law keeps of rounds that came in -/
structure KeepR (w0 w : World) (A : Option Addr) (n : Nat) (ra re : Nat → Int) : Prop where
  bel : Below w0.heap.size w0 w
  r : RoundsAt w A n ra re
theorem KeepR.next {w0 w w' : World} {A : Option Addr} {n : Nat} {ra re : Nat → Int} (h : KeepR w0 w A n ra re) (hb : Below w.heap.size w w') : KeepR w0 w' A n ra re := ⟨btr h.bel hb h.bel.size, h.r.below hb⟩

set_option maxHeartbeats 1000000 in
theorem windowMeets_walk (A : Option Addr) (n c : Nat) (ra re : Nat → Int) (i k h : Int) (w : World) (hr : RoundsAt w A n ra re) (_ : (Lit.int .i64 i).wf = true) (_ : (Lit.int .i64 k).wf = true) (_ : (Lit.int .i64 h).wf = true) :
    Calls Try.prog 3 #[.slice A n c, .int .i64 i, .int .i64 k, .int .i64 h] w fun e w' => e = .returned (.bool true) ∧ Below w.heap.size w w' := by
  have K : KeepR w w A n ra re := ⟨Below.refl _ _, hr⟩
  clear hr
  by_cases hl : (40 : Int) < n
  · go_enter Try.func3, Try.ntmps3
    go_wp2_with (first
      | (go_at_call 18; refine (long_any _ _ _ _).mono ?_; rintro e w' ⟨rfl, rfl⟩)
      | (go_at_call 19; refine (awake_any _).mono ?_; rintro e w' ⟨rfl, hb⟩; have K' := KeepR.next (by assumption) hb; clear hb))
    go_ret
    exact ⟨rfl, K'.bel⟩
  · go_enter Try.func3, Try.ntmps3
    go_wp2_with (first
      | (go_at_call 18; refine (long_any _ _ _ _).mono ?_; rintro e w' ⟨rfl, rfl⟩)
      | (go_at_call 19; refine (awake_any _).mono ?_; rintro e w' ⟨rfl, hb⟩; have K' := KeepR.next (by assumption) hb; clear hb)
      | (go_at_call 20; refine (meet_any _ _ _ _ _ _ (KeepR.r (by assumption))).mono ?_; rintro e w' ⟨rfl, hb⟩; have K' := KeepR.next (by assumption) hb; clear hb)
      | (go_at_call 21; refine (rMeet_any _ _ _ _ _ _ (KeepR.r (by assumption))).mono ?_; rintro e w' ⟨rfl, hb⟩; have K' := KeepR.next (by assumption) hb; clear hb)
      | (go_at_call 22; refine (wNever_any _ _ _ _ _ _ (KeepR.r (by assumption))).mono ?_; rintro e w' ⟨rfl, hb⟩; have K' := KeepR.next (by assumption) hb; clear hb)
      | (go_at_call 23; refine (rNever_any _ _ _ _ _ _ (KeepR.r (by assumption))).mono ?_; rintro e w' ⟨rfl, hb⟩; have K' := KeepR.next (by assumption) hb; clear hb)
      | (go_at_call 24; refine (wIsNever_any _ _ _ _ _ _ _ _ (KeepR.r (by assumption))).mono ?_; rintro e w' ⟨rfl, hb⟩; have K' := KeepR.next (by assumption) hb; clear hb)
      | (go_at_call 25; refine (rIsNever_any _ _ _ _ _ _ _ _ (KeepR.r (by assumption))).mono ?_; rintro e w' ⟨rfl, hb⟩; have K' := KeepR.next (by assumption) hb; clear hb)
      | (go_at_call 26; refine (wHits_any _ _ _ _ _ _ _ (KeepR.r (by assumption))).mono ?_; rintro e w' ⟨rfl, hb⟩; have K' := KeepR.next (by assumption) hb; clear hb)
      | (go_at_call 27; refine (rHits_any _ _ _ _ _ _ _ (KeepR.r (by assumption))).mono ?_; rintro e w' ⟨rfl, hb⟩; have K' := KeepR.next (by assumption) hb; clear hb))
    go_ret
    exact ⟨rfl, (by assumption : KeepR _ _ _ _ _ _).bel⟩
end Go.Proofs.Ytfabpkcgdblnbaa
