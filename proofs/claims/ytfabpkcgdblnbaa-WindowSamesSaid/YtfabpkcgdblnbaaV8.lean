/-
  The law WindowSames: it returns true, whatever the input. Conditions: the hours lie in memory.
-/
import Derived.Test.YtfabpkcgdblnbaaV7
namespace Go.Proofs.Ytfabpkcgdblnbaa
set_option linter.unusedVariables false
set_option linter.unusedSimpArgs false
open Go.RowKit

theorem windowSames_walk (P : Int) (A : Option Addr) (n c : Nat) (h : Nat → Int) (Q : Int) (B : Option Addr) (m d : Nat) (k : Nat → Int) (w : World) (hh : HoursAt w A n h) (hk : HoursAt w B m k) :
    Calls Try.prog 6 #[.agg #[.int .i64 P, .slice A n c], .agg #[.int .i64 Q, .slice B m d]] w fun e w' => e = .returned (.bool true) ∧ Below w.heap.size w w' := by
  have K := KW2.new (P := P) (Q := Q) (c := c) (d := d) hh hk
  have hk0 := K.v.c0
  have hk1 := K.v.c1
  have hk2 := K.u.c0
  have hk3 := K.u.c1
  clear hh hk
  by_cases hl : (4000 : Int) < n
  · go_enter Try.func6, Try.ntmps6
    go_wp2_with (first
      | (go_at_call 30; refine (lWide_any _ _ _ _ _).mono ?_; rintro e w1 ⟨rfl, hb1⟩)
      | (go_at_call 19; refine (awake_any _).mono ?_; rintro e w2 ⟨rfl, hb2⟩))
    go_ret
    exact ⟨rfl, ((K.next hb1).next hb2).v.bel⟩
  · go_enter Try.func6, Try.ntmps6
    go_wp2_with fail
    refine (lWide_any _ _ _ _ _).mono ?_
    rintro e w1 ⟨rfl, hb1⟩
    have K1 := K.next hb1
    clear hk0 hk1 hk2 hk3 hb1
    have hk0 := K1.v.c0
    have hk1 := K1.v.c1
    have hk2 := K1.u.c0
    have hk3 := K1.u.c1
    go_wp2_with fail
    refine (lWide_any _ _ _ _ _).mono ?_
    rintro e w2 ⟨rfl, hb2⟩
    have K2 := K1.next hb2
    clear hk0 hk1 hk2 hk3 hb2
    have hk0 := K2.v.c0
    have hk1 := K2.v.c1
    have hk2 := K2.u.c0
    have hk3 := K2.u.c1
    by_cases hl2 : (4000 : Int) < m
    · go_wp2_with (go_at_call 19; refine (awake_any _).mono ?_; rintro e w3 ⟨rfl, hb3⟩)
      go_ret
      exact ⟨rfl, (K2.next hb3).v.bel⟩
    · go_wp2_with (first
        | (go_at_call 33; refine (wSame_any _ _ _ _ _ _ _ _ _ _ _ K2.v.hrs K2.u.hrs).mono ?_; rintro e w3 ⟨rfl, hb⟩; have K3 := K2.next hb; clear hb hk0 hk1 hk2 hk3; have hk0 := K3.v.c0; have hk1 := K3.v.c1; have hk2 := K3.u.c0; have hk3 := K3.u.c1)
        | (go_at_call 34; refine (rSame_any _ _ _ _ _ _ _ _ _ _ _ K3.v.hrs K3.u.hrs).mono ?_; rintro e w4 ⟨rfl, hb⟩; have K4 := K3.next hb; clear hb hk0 hk1 hk2 hk3)
        | (go_at_call 19; refine (awake_any _).mono ?_; rintro e w5 ⟨rfl, hb5⟩))
      go_ret
      exact ⟨rfl, (K4.next hb5).v.bel⟩
end Go.Proofs.Ytfabpkcgdblnbaa
