/-
  The law WindowNexts: it returns true, whatever the input. Conditions: the hours lie in memory.
-/
import Derived.Test.YtfabpkcgdblnbaaW6
namespace Go.Proofs.Ytfabpkcgdblnbaa
set_option linter.unusedVariables false
set_option linter.unusedSimpArgs false
open Go.RowKit

/-- opens -/
theorem opens_any (P : Int) (A : Option Addr) (n c : Nat) (h : Nat → Int) (x : Int) (w : World) (hh : HoursAt w A n h) :
    Calls Try.prog 37 #[.agg #[.int .i64 P, .slice A n c], .int .i64 x] w fun e w' => e = .returned (.tuple #[.bool (openOf P n h x).1, .bool ((openOf P n h x).2 == 0)]) ∧ Below w.heap.size w w' := by
  go_enter Try.func37, Try.ntmps37
  go_wp2_with (go_at_call 43; refine (wOpen_any _ _ _ _ _ _ _ (hh.alloc _)).mono ?_; rintro e w1 ⟨rfl, hb1⟩)
  go_ret2
  exact ⟨rfl, box_trans _ hb1⟩

/-! ### what Next says -/
theorem anyB_ex {n : Nat} {f : Nat → Bool} (h : anyB n f = true) : ∃ k, k < n ∧ f k = true ∧ (∀ j, j < k → f j = false) ∧ idxB n f = k := by
  obtain ⟨i, hi, hf⟩ := anyB_true.1 h
  have key : ∀ m, (∃ i, i < m ∧ i < n ∧ f i = true) → ∃ k, k < n ∧ f k = true ∧ ∀ j, j < k → f j = false := by
    intro m
    induction m with
    | zero => rintro ⟨i, hi, _⟩; omega
    | succ m ih =>
      rintro ⟨i, h1, h2, h3⟩
      by_cases hh : ∃ i, i < m ∧ i < n ∧ f i = true
      · exact ih hh
      · refine ⟨i, h2, h3, fun j hj => ?_⟩
        cases e : f j
        · rfl
        · exact absurd ⟨j, by omega, by omega, e⟩ hh
  obtain ⟨k, h1, h2, h3⟩ := key (i + 1) ⟨i, by omega, hi, hf⟩
  exact ⟨k, h1, h2, h3, idxB_some h1 h2 h3⟩
/-- the next hour, or none -/
theorem nextOf_cases {p n : Nat} {h : Nat → Int} {x : Nat} (hw : winB p n h 3600 = true) (hx : (x : Int) ≤ 1000000000) :
    (n = 0 ∧ nextOf p n h x = (0, 5)) ∨ (∃ k, k < p ∧ nextOf p n h x = ((x : Int) + (k : Int), 0) ∧ opn n h ((x + k) % p) = true ∧ ∀ j, j < k → opn n h ((x + j) % p) = false) := by
  have hx2 : btw 0 (x : Int) 1000000000 = true := btw_true (by omega) hx
  cases e : anyB p (nextF p (opn n h) x)
  · refine .inl ⟨?_, nextOf_no hw hx2 (anyB_false.1 e)⟩
    rcases Nat.eq_zero_or_pos n with h0 | h0
    · exact h0
    · exfalso
      have ha := asc_of hw
      have hle := ha.le
      have h3 := ha 0 h0
      obtain ⟨y, hy⟩ := Int.eq_ofNat_of_zero_le h3.1.1
      have hy2 : y < p := by have := h3.1.2; omega
      have hop : opn n h y = true := opn_true.2 ⟨0, h0, hy⟩
      have hk := anyB_false.1 e ((y + p - x % p) % p) (Nat.mod_lt _ (by omega))
      unfold nextF at hk
      have : (x + (y + p - x % p) % p) % p = y := by
        rw [Nat.add_mod_mod]
        have h1 := Nat.mod_lt x (show 0 < p by omega)
        have h2 := Nat.mod_add_div x p
        rw [show x + (y + p - x % p) = y + p * (x / p + 1) from by rw [Nat.mul_add, Nat.mul_one]; omega, Nat.add_mul_mod_self_left, Nat.mod_eq_of_lt hy2]
      rw [this, hop] at hk
      cases hk
  · obtain ⟨k, h1, h2, h3, h4⟩ := anyB_ex e
    exact .inr ⟨k, h1, nextOf_hit hw hx2 h1 h2 h3, h2, h3⟩
theorem openOf_at {p n : Nat} {h : Nat → Int} {x : Nat} (hw : winB p n h 3600 = true) (hx : (x : Int) ≤ 1000000000) : openOf p n h x = (opn n h (x % p), 0) := by
  have hx2 : btw 0 (x : Int) 1000000000 = true := btw_true (by omega) hx
  unfold openOf
  rw [if_pos hw, if_pos hx2, Int.toNat_natCast, Int.toNat_natCast]

theorem nexts_skip (P : Int) (A : Option Addr) (n c : Nat) (h : Nat → Int) (x k : Int) (w : World) (hh : HoursAt w A n h) (hl : (4000 : Int) < n ∨ winB P n h 3600 = false) :
    Calls Try.prog 7 #[.agg #[.int .i64 P, .slice A n c], .int .u32 x, .int .u32 k] w fun e w' => e = .returned (.bool true) ∧ Below w.heap.size w w' := by
  have K := KW.new (P := P) (c := c) hh
  have hk0 := K.c0
  have hk1 := K.c1
  by_cases hl2 : (4000 : Int) < n
  · go_enter Try.func7, Try.ntmps7
    go_wp2_with (first
      | (go_at_call 30; refine (lWide_any _ _ _ _ _).mono ?_; rintro e w1 ⟨rfl, hb⟩; have K1 := K.next hb; clear hb hk0 hk1; have hk0 := K1.c0; have hk1 := K1.c1)
      | (go_at_call 19; refine (awake_any _).mono ?_; rintro e w2 ⟨rfl, hb⟩))
    go_ret
    exact ⟨rfl, (K1.next hb).bel⟩
  · have hw : winB P n h 3600 = false := hl.resolve_left hl2
    clear hl
    go_enter Try.func7, Try.ntmps7
    go_wp2_with (first
      | (go_at_call 30; refine (lWide_any _ _ _ _ _).mono ?_; rintro e w1 ⟨rfl, hb⟩; have K1 := K.next hb; clear hb hk0 hk1; have hk0 := K1.c0; have hk1 := K1.c1)
      | (go_at_call 35; refine (rWide_any _ _ _ _ _ _ K1.hrs).mono ?_; rintro e w2 ⟨rfl, hb⟩; have K2 := K1.next hb; clear hb hk0 hk1; have hk0 := K2.c0; have hk1 := K2.c1)
      | (go_at_call 19; refine (awake_any _).mono ?_; rintro e w3 ⟨rfl, hb⟩))
    go_ret
    exact ⟨rfl, (K2.next hb).bel⟩

theorem opens_at (p : Nat) (A : Option Addr) (n c : Nat) (h : Nat → Int) (x : Nat) (b : Bool) (w : World) (hh : HoursAt w A n h) (hw : winB p n h 3600 = true) (hx : (x : Int) ≤ 1000000000) (hb : opn n h (x % p) = b) :
    Calls Try.prog 37 #[.agg #[.int .i64 (p : Int), .slice A n c], .int .i64 (x : Int)] w fun e w' => e = .returned (.tuple #[.bool b, .bool true]) ∧ Below w.heap.size w w' := by
  have := opens_any p A n c h x w hh
  rw [openOf_at hw hx, hb] at this
  exact this
theorem nexts_none (p : Nat) (A : Option Addr) (n c : Nat) (h : Nat → Int) (x : Nat) (k : Int) (w : World) (hh : HoursAt w A n h) (hl : ¬ (4000 : Int) < n) (hw : winB p n h 3600 = true) (h0 : n = 0) (hxb : (x : Int) ≤ 4294967295)
    (hN : nextOf p n h ((x % 900000000 : Nat) : Int) = (0, 5)) :
    Calls Try.prog 7 #[.agg #[.int .i64 (p : Int), .slice A n c], .int .u32 (x : Int), .int .u32 k] w fun e w' => e = .returned (.bool true) ∧ Below w.heap.size w w' := by
  have K := KW.new (P := (p : Int)) (c := c) hh
  have hk0 := K.c0
  have hk1 := K.c1
  have HN := hid hN
  have HW := hid hw
  have hE : (x : Int) % 900000000 = ((x % 900000000 : Nat) : Int) := rfl
  have hz : ((n : Int) == 0) = true := beq_iff_eq.2 (by omega)
  have hlt := Nat.mod_lt x (show 0 < 900000000 by omega)
  clear h0 hw hN
  generalize x % 900000000 = y at *
  go_enter Try.func7, Try.ntmps7
  go_wp2_with (first
    | (go_at_call 30; refine (lWide_any _ _ _ _ _).mono ?_; rintro e w1 ⟨rfl, hb⟩; have K1 := K.next hb; clear hb hk0 hk1; have hk0 := K1.c0; have hk1 := K1.c1)
    | (go_at_call 35; refine (rWide_any _ _ _ _ _ _ K1.hrs).mono ?_; rintro e w2 ⟨rfl, hb⟩; have K2 := K1.next hb; clear hb hk0 hk1; have hk0 := K2.c0; have hk1 := K2.c1; simp only [HW.out])
    | (go_at_call 36; refine (wNext_any _ _ _ _ _ _ _ K2.hrs).mono ?_; rintro e w3 ⟨rfl, hb⟩; have K3 := K2.next hb; clear hb hk0 hk1; have hk0 := K3.c0; have hk1 := K3.c1; simp only [HN.out])
    | (go_at_call 19; refine (awake_any _).mono ?_; rintro e w4 ⟨rfl, hb⟩))
  go_ret
  exact ⟨rfl, (K3.next hb).bel⟩
set_option maxRecDepth 100000 in
set_option maxHeartbeats 1000000 in
theorem nexts_some (p : Nat) (A : Option Addr) (n c : Nat) (h : Nat → Int) (x m : Nat) (k : Int) (w : World) (hh : HoursAt w A n h) (hl : ¬ (4000 : Int) < n) (hw : winB p n h 3600 = true) (hk : 0 ≤ k ∧ k ≤ 4294967295) (hxb : (x : Int) ≤ 4294967295)
    (hm1 : x % 900000000 ≤ m) (hm2 : m < x % 900000000 + p) (hN : nextOf p n h ((x % 900000000 : Nat) : Int) = ((m : Int), 0)) (hf : opn n h (m % p) = true) (hno : ∀ j, x % 900000000 ≤ j → j < m → opn n h (j % p) = false) :
    Calls Try.prog 7 #[.agg #[.int .i64 (p : Int), .slice A n c], .int .u32 (x : Int), .int .u32 k] w fun e w' => e = .returned (.bool true) ∧ Below w.heap.size w w' := by
  have K := KW.new (P := (p : Int)) (c := c) hh
  have hk0 := K.c0
  have hk1 := K.c1
  have HN := hid hN
  have HF := hid hf
  have HNO := hid hno
  have HW := hid hw
  have hv := (winB_true.1 hw).1
  obtain ⟨kk1, kk2⟩ := hk
  have hE : (x : Int) % 900000000 = ((x % 900000000 : Nat) : Int) := rfl
  have hlt := Nat.mod_lt x (show 0 < 900000000 by omega)
  clear hw hN hf hno
  generalize x % 900000000 = y at *
  by_cases he : m = y
  · have he' : ((m : Int) == (y : Int)) = true := beq_iff_eq.2 (by omega)
    clear he
    go_enter Try.func7, Try.ntmps7
    go_wp2_with (first
      | (go_at_call 30; refine (lWide_any _ _ _ _ _).mono ?_; rintro e w1 ⟨rfl, hb⟩; have K1 := K.next hb; clear hb hk0 hk1; have hk0 := K1.c0; have hk1 := K1.c1)
      | (go_at_call 35; refine (rWide_any _ _ _ _ _ _ K1.hrs).mono ?_; rintro e w2 ⟨rfl, hb⟩; have K2 := K1.next hb; clear hb hk0 hk1; have hk0 := K2.c0; have hk1 := K2.c1; simp only [HW.out])
      | (go_at_call 36; refine (wNext_any _ _ _ _ _ _ _ K2.hrs).mono ?_; rintro e w3 ⟨rfl, hb⟩; have K3 := K2.next hb; clear hb hk0 hk1; have hk0 := K3.c0; have hk1 := K3.c1; simp only [HN.out])
      | (go_at_call 37; refine (opens_at _ _ _ _ _ _ _ _ K3.hrs HW.out (by omega) HF.out).mono ?_; rintro e w4 ⟨rfl, hb⟩; have K4 := K3.next hb; clear hb hk0 hk1; have hk0 := K4.c0; have hk1 := K4.c1)
      | (go_at_call 19; refine (awake_any _).mono ?_; rintro e w5 ⟨rfl, hb⟩))
    go_ret
    exact ⟨rfl, (K4.next hb).bel⟩
  · have he' : ((m : Int) == (y : Int)) = false := beq_eq_false_iff_ne.2 (by omega)
    have hr1 := Int.emod_nonneg k (b := (m : Int) - y) (by omega)
    have hr2 := Int.emod_lt_of_pos k (show 0 < (m : Int) - y by omega)
    obtain ⟨r, hr⟩ := Int.eq_ofNat_of_zero_le hr1
    rw [hr] at hr2
    have hz2 : (((m : Int) - (y : Int)) == 0) = false := beq_eq_false_iff_ne.2 (by omega)
    have hz3 : ¬ ((m : Int) - (y : Int) = 0) := by omega
    clear he hr1
    go_enter Try.func7, Try.ntmps7
    go_wp2_with (first
      | (go_at_call 30; refine (lWide_any _ _ _ _ _).mono ?_; rintro e w1 ⟨rfl, hb⟩; have K1 := K.next hb; clear hb hk0 hk1; have hk0 := K1.c0; have hk1 := K1.c1)
      | (go_at_call 35; refine (rWide_any _ _ _ _ _ _ K1.hrs).mono ?_; rintro e w2 ⟨rfl, hb⟩; have K2 := K1.next hb; clear hb hk0 hk1; have hk0 := K2.c0; have hk1 := K2.c1; simp only [HW.out])
      | (go_at_call 36; refine (wNext_any _ _ _ _ _ _ _ K2.hrs).mono ?_; rintro e w3 ⟨rfl, hb⟩; have K3 := K2.next hb; clear hb hk0 hk1; have hk0 := K3.c0; have hk1 := K3.c1; simp only [HN.out])
      | (go_at_call 37; refine (opens_at _ _ _ _ _ _ _ _ K3.hrs HW.out (by omega) HF.out).mono ?_; rintro e w4 ⟨rfl, hb⟩; have K4 := K3.next hb; clear hb hk0 hk1; have hk0 := K4.c0; have hk1 := K4.c1))
    clear hk0 hk1
    have hc1 := Later.cells (B := w4.heap.size) (w := w4) K4.c0 K4.lt
    have hc2 := Later.cells (B := w4.heap.size) (w := w4) K4.c1 K4.lt
    have HQ := hid fun z : Later w4.heap.size w4 => Calls.later_of (x := z) (Nat.le_refl _) (opens_at p A n c h (y + r) false z.up (K4.hrs.below z.bel) HW.out (by omega) (HNO.out (y + r) (by omega) (by omega)))
    have hcast : ((y + r : Nat) : Int) = (y : Int) + (r : Int) := by omega
    rw [hcast] at HQ
    clear hcast
    refine wp_region_later w4.heap.size (by kernel_rfl) (by kernel_rfl) ?_
    repeat (go_big_quiet_step ((go_at_call 37; exact HQ.out _)))
    refine wpQuiet_nil ?_
    rintro _ ⟨⟨w6, hb6⟩, rfl⟩
    clear hc1 hc2
    have K6 := K4.next hb6
    go_wp2_with (go_at_call 19; refine (awake_any _).mono ?_; rintro e w5 ⟨rfl, hb⟩)
    go_ret
    exact ⟨rfl, (K6.next hb).bel⟩
theorem u32_nat {x : Int} (h : (Lit.int .u32 x).wf = true) : ∃ y : Nat, x = y ∧ y ≤ 4294967295 := by
  simp [Lit.wf, IntKind.min, IntKind.max, IntKind.bits, IntKind.signed] at h
  obtain ⟨y, rfl⟩ := Int.eq_ofNat_of_zero_le h.1
  exact ⟨y, rfl, by omega⟩
theorem windowNexts_walk (P : Int) (A : Option Addr) (n c : Nat) (h : Nat → Int) (x k : Int) (w : World) (hh : HoursAt w A n h) (hx : (Lit.int .u32 x).wf = true) (hk : (Lit.int .u32 k).wf = true) :
    Calls Try.prog 7 #[.agg #[.int .i64 P, .slice A n c], .int .u32 x, .int .u32 k] w fun e w' => e = .returned (.bool true) ∧ Below w.heap.size w w' := by
  by_cases hl : (4000 : Int) < n
  · exact nexts_skip P A n c h x k w hh (.inl hl)
  · cases hw : winB P n h 3600
    · exact nexts_skip P A n c h x k w hh (.inr hw)
    · have hv := (winB_true.1 hw).1
      obtain ⟨p, rfl⟩ := Int.eq_ofNat_of_zero_le (show 0 ≤ P by omega)
      obtain ⟨y, rfl, hy⟩ := u32_nat hx
      obtain ⟨z, rfl, hz⟩ := u32_nat hk
      have hlt := Nat.mod_lt y (show 0 < 900000000 by omega)
      rcases nextOf_cases (x := y % 900000000) hw (by omega) with ⟨h0, hN⟩ | ⟨d, hd, hN, hf, hno⟩
      · exact nexts_none p A n c h y z w hh hl hw h0 (by omega) hN
      · refine nexts_some p A n c h y (y % 900000000 + d) z w hh hl hw (by omega) (by omega) (by omega) (by omega) (by rw [hN]; simp) hf (fun j h1 h2 => ?_)
        have := hno (j - y % 900000000) (by omega)
        rwa [show y % 900000000 + (j - y % 900000000) = j from by omega] at this
end Go.Proofs.Ytfabpkcgdblnbaa
