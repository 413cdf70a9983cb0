/-
  The law WindowNevers: it returns true, whatever the input. Conditions: the rounds lie in memory.
-/
import Derived.Test.YtfabpkcgdblnbaaR6
namespace Go.Proofs.Ytfabpkcgdblnbaa
set_option linter.unusedVariables false
set_option linter.unusedSimpArgs false
open Go.RowKit

/-- divides -/
theorem divides_any (a1 e1 a2 e2 : Int) (w : World) (h1 : 1 ≤ e1 ∧ e1 ≤ 1000) (h2 : 1 ≤ e2 ∧ e2 ≤ 1000) (h3 : 0 ≤ a1 ∧ a1 < e1) (h4 : 0 ≤ a2 ∧ a2 < e2) :
    Calls Try.prog 29 #[.agg #[.int .i64 a1, .int .i64 e1], .agg #[.int .i64 a2, .int .i64 e2]] w fun e w' => e = .returned (.bool (!nv a1 e1 a2 e2)) ∧ Below w.heap.size w w' := by
  obtain ⟨h1, h1'⟩ := h1
  obtain ⟨h2, h2'⟩ := h2
  obtain ⟨h3, h3'⟩ := h3
  obtain ⟨h4, h4'⟩ := h4
  have hg := gcd_pos e1 e2 (by omega)
  have hg2 := gcd_le e1 e2 (by omega)
  have hb0 : Below w.heap.size w ((w.alloc (.cells #[.int .i64 a1, .int .i64 e1] 36)).alloc (.cells #[.int .i64 a2, .int .i64 e2] 36)) := ((Below.refl _ _).alloc (Nat.le_refl _) _).alloc (by simp) _
  have hn : (!nv a1 e1 a2 e2) = ((a1 - a2).tmod (Int.gcd e1 e2) == 0) := by unfold nv; rw [bne, Bool.not_not]
  have HN := hid hn
  clear hn
  go_enter Try.func29, Try.ntmps29
  go_wp2
  go_quiet (fail)
  go_wp2
  go_loopw [5, 6] (fun x y wr => ∃ p q : Int, 0 ≤ p ∧ p ≤ 1000 ∧ 0 ≤ q ∧ q ≤ 1000 ∧ x = .int .i64 p ∧ y = .int .i64 q ∧ Int.gcd p q = Int.gcd e1 e2 ∧ ∃ m, wr = ((w.alloc (.cells #[.int .i64 a1, .int .i64 e1] 36)).alloc (.cells #[.int .i64 a2, .int .i64 e2] 36)).drewN m) (fun _ y _ => (intOf y).toNat)
  case atStart => exact ⟨e1, e2, by omega, by omega, by omega, by omega, rfl, rfl, rfl, nq, rfl⟩
  case round =>
    obtain ⟨p, q, hp, hp', hq, hq', rfl, rfl, hg3, m, rfl⟩ := hrel
    by_cases hz : 0 < q
    · have HG := hid hg3
      clear hg3
      have hne : (q == 0) = false := by simp; omega
      have hne' : (q != 0) = true := by simp; omega
      have m1 := Int.emod_nonneg p (b := q) (by omega)
      have m2 := Int.emod_lt_of_pos p hz
      go_wp2
      go_quiet (fail)
      go_wp2
      go_roundw
      case rel => exact ⟨q, p % q, by omega, by omega, by omega, by omega, rfl, rfl, by rw [gcd_step p q hp (by omega)]; exact HG.out, m + nq, by simp⟩
      case measure => simp [intOf]; omega
    · obtain rfl : q = 0 := by omega
      have hp2 : p = (Int.gcd e1 e2 : Int) := by rw [← hg3, gcd_end p hp]
      subst hp2
      clear hg3
      have hz2 : ((Int.gcd e1 e2 : Int) == 0) = false := by simp; omega
      go_wp2
      go_ret
      exact ⟨ret_bool (by rw [HN.out]), bdn hb0 _⟩

/-! ### what the answers say -/
theorem meetOf_ok {ra re : Nat → Int} {n : Nat} (h : okB ra re n = true) (hp : (pairOf (nev ra re) n).2.2 = false) :
    meetOf ra re n = (meetUp ra re n, lcmUp re n, 0) ∧ Met ra re n ∧ 1 ≤ lcmUp re n := by
  have hv := (okB_true.1 h).2
  have hno := pairOf_false hp
  exact ⟨by unfold meetOf; rw [if_pos h, if_neg (by rw [hp]; simp)], met_all n hv hno, lcmUp_pos n fun i hi => (hv i hi).1⟩
theorem inAllB_true {ra re : Nat → Int} {n : Nat} {x : Int} : inAllB ra re n x = true ↔ InAll ra re n x := by
  unfold inAllB InAll
  rw [Bool.not_eq_true', anyB_false]
  simp
/-- they meet again and again -/
theorem hits_again {ra re : Nat → Int} {n : Nat} (hv : Valids ra re n) (h : Met ra re n) (j : Int) : inAllB ra re n (meetUp ra re n + lcmUp re n * j) = true :=
  inAllB_true.2 (by rw [Int.mul_comm]; exact h.1.shift fun i hi => (hv i hi).1)
/-- and not before -/
theorem hits_before {ra re : Nat → Int} {n : Nat} (hv : Valids ra re n) (h : Met ra re n) (x : Int) (h0 : 0 ≤ x) (h1 : x < meetUp ra re n) : inAllB ra re n x = false := by
  cases e : inAllB ra re n x
  · rfl
  · have := InAll.eq (fun i hi => (hv i hi).1) (inAllB_true.1 e) h.1 ⟨h0, by have := h.2.2; omega⟩ ⟨h.2.1, h.2.2⟩
    omega

/-! ### the law, by its four ways -/
set_option maxRecDepth 100000 in
theorem nevers_long (A : Option Addr) (n c : Nat) (g b : Int) (w : World) (hl : (40 : Int) < n) :
    Calls Try.prog 4 #[.slice A n c, .int .u16 g, .int .u32 b] w fun e w' => e = .returned (.bool true) ∧ Below w.heap.size w w' := by
  go_enter Try.func4, Try.ntmps4
  go_wp2_with (first
    | (go_at_call 18; refine (long_any _ _ _ _).mono ?_; rintro e w' ⟨rfl, rfl⟩)
    | (go_at_call 19; refine (awake_any _).mono ?_; rintro e w1 ⟨rfl, hb1⟩))
  go_ret
  exact ⟨rfl, hb1⟩
set_option maxRecDepth 100000 in
theorem nevers_bad (A : Option Addr) (n c : Nat) (ra re : Nat → Int) (g b : Int) (w : World) (hr : RoundsAt w A n ra re) (hl : ¬ (40 : Int) < n) (hok : okB ra re n = false) :
    Calls Try.prog 4 #[.slice A n c, .int .u16 g, .int .u32 b] w fun e w' => e = .returned (.bool true) ∧ Below w.heap.size w w' := by
  have K : KeepR w w A n ra re := ⟨Below.refl _ _, hr⟩
  have HM := hid (show meetOf ra re n = (0, 0, 51) by simp [meetOf, hok])
  have HV := hid (show neverOf ra re n = (0, 0, 51) by simp [neverOf, hok])
  clear hr
  go_enter Try.func4, Try.ntmps4
  go_wp2_with (first
    | (go_at_call 18; refine (long_any _ _ _ _).mono ?_; rintro e w' ⟨rfl, rfl⟩)
    | (go_at_call 19; refine (awake_any _).mono ?_; rintro e w' ⟨rfl, hb⟩; have K' := KeepR.next (by assumption) hb; clear hb)
    | (go_at_call 20; refine (meet_any _ _ _ _ _ _ (KeepR.r (by assumption))).mono ?_; rintro e w' ⟨rfl, hb⟩; have K' := KeepR.next (by assumption) hb; clear hb; simp only [HM.out])
    | (go_at_call 22; refine (wNever_any _ _ _ _ _ _ (KeepR.r (by assumption))).mono ?_; rintro e w' ⟨rfl, hb⟩; have K' := KeepR.next (by assumption) hb; clear hb; simp only [HV.out])
    | (go_at_call 28; refine (areRounds_any _ _ _ _ _ _ (KeepR.r (by assumption))).mono ?_; rintro e w' ⟨rfl, hb⟩; have K' := KeepR.next (by assumption) hb; clear hb))
  go_ret
  exact ⟨rfl, (by assumption : KeepR _ _ _ _ _ _).bel⟩
set_option maxRecDepth 100000 in
theorem nevers_pair (A : Option Addr) (n c : Nat) (ra re : Nat → Int) (g b : Int) (w : World) (hr : RoundsAt w A n ra re) (hl : ¬ (40 : Int) < n) (hok : okB ra re n = true)
    (i k : Nat) (hp : pairOf (nev ra re) n = ((i : Int), (k : Int), true)) (hik : i < k) (hk : k < n) (hn : nev ra re i k = true) :
    Calls Try.prog 4 #[.slice A n c, .int .u16 g, .int .u32 b] w fun e w' => e = .returned (.bool true) ∧ Below w.heap.size w w' := by
  have K : KeepR w w A n ra re := ⟨Below.refl _ _, hr⟩
  have HM := hid (show meetOf ra re n = (0, 0, 5) by simp [meetOf, hok, hp])
  have HV := hid (show neverOf ra re n = ((i : Int), (k : Int), 0) by simp [neverOf, hok, hp])
  have HI := hid (show isNeverOf ra re n i k = (true, 0) by unfold isNeverOf; rw [if_pos hok, if_pos (by omega)]; simp [hn])
  have HO := hid (okB_true.1 hok)
  have HN := hid hn
  clear hr hp hn
  go_enter Try.func4, Try.ntmps4
  go_wp2_with (first
    | (go_at_call 18; refine (long_any _ _ _ _).mono ?_; rintro e w' ⟨rfl, rfl⟩)
    | (go_at_call 20; refine (meet_any _ _ _ _ _ _ (KeepR.r (by assumption))).mono ?_; rintro e w' ⟨rfl, hb⟩; have K' := KeepR.next (by assumption) hb; clear hb; simp only [HM.out])
    | (go_at_call 22; refine (wNever_any _ _ _ _ _ _ (KeepR.r (by assumption))).mono ?_; rintro e w' ⟨rfl, hb⟩; have K' := KeepR.next (by assumption) hb; clear hb; simp only [HV.out])
    | (go_at_call 28; refine (areRounds_any _ _ _ _ _ _ (KeepR.r (by assumption))).mono ?_; rintro e w' ⟨rfl, hb⟩; have K' := KeepR.next (by assumption) hb; clear hb)
    | (go_at_call 24; refine (wIsNever_any _ _ _ _ _ _ _ _ (KeepR.r (by assumption))).mono ?_; rintro e w4 ⟨rfl, hb⟩; have K4 := KeepR.next (by assumption) hb; clear hb; simp only [HI.out]))
  obtain ⟨hn9, bl, off, hbl, hA, hc⟩ := K4.r
  obtain rfl := hA (by omega)
  have hv1 := HO.out.2 i (by omega)
  have hv2 := HO.out.2 k hk
  have hc1 := Later.cells (B := w4.heap.size) (w := w4) (hc i (by omega)).1 (hbl (by omega))
  have hc2 := Later.cells (B := w4.heap.size) (w := w4) (hc i (by omega)).2 (hbl (by omega))
  have hc3 := Later.cells (B := w4.heap.size) (w := w4) (hc k hk).1 (hbl (by omega))
  have hc4 := Later.cells (B := w4.heap.size) (w := w4) (hc k hk).2 (hbl (by omega))
  have hnv : (!nv (ra i) (re i) (ra k) (re k)) = false := by have := HN.out; unfold nev at this; rw [this]; rfl
  have HQ := hid fun x : Later w4.heap.size w4 => Calls.later_of (v := .bool false) (x := x) (Nat.le_refl _) (hnv ▸ divides_any (ra i) (re i) (ra k) (re k) x.up ⟨hv1.1, hv1.2.1⟩ ⟨hv2.1, hv2.2.1⟩ hv1.2.2 hv2.2.2)
  have HA := hid fun x : Later w4.heap.size w4 => Calls.later_of (v := .bool true) (x := x) (Nat.le_refl _) (awake_any x.up)
  have hb4 := K4.bel
  clear hc hv1 hv2 hnv K4 hA
  refine wp_region_later w4.heap.size (by kernel_rfl) (by kernel_rfl) ?_
  repeat (go_big_quiet_step ((first | (go_at_call 29; exact HQ.out _) | (go_at_call 19; exact HA.out _))))
  refine wpQuiet_nil ?_
  rintro _ ⟨⟨w5, hb5⟩, rfl⟩
  go_wp2
  go_ret
  exact ⟨rfl, hb4.trans (hb5.mono hb4.size)⟩

theorem lcmUp_le18 {re : Nat → Int} (n : Nat) (hn : n ≤ 6) (h : ∀ i, i < n → 1 ≤ re i ∧ re i ≤ 1000) : lcmUp re n ≤ 1000000000000000000 := by
  have h1 := lcmUp_le n h
  have h2 : (1000 : Nat) ^ n ≤ 1000 ^ 6 := Nat.pow_le_pow_right (by omega) hn
  have h3 : ((1000 ^ n : Nat) : Int) ≤ ((1000 ^ 6 : Nat) : Int) := Int.ofNat_le.2 h2
  rw [Int.natCast_pow, Int.natCast_pow] at h3
  exact Int.le_trans h1 h3
set_option maxRecDepth 100000 in
set_option maxHeartbeats 1000000 in
theorem nevers_meet (A : Option Addr) (n c : Nat) (ra re : Nat → Int) (g b : Int) (w : World) (hr : RoundsAt w A n ra re) (hl : ¬ (40 : Int) < n) (hok : okB ra re n = true)
    (hp : (pairOf (nev ra re) n).2.2 = false) (hg : 0 ≤ g ∧ g ≤ 65535) (hb : 0 ≤ b ∧ b ≤ 4294967295) :
    Calls Try.prog 4 #[.slice A n c, .int .u16 g, .int .u32 b] w fun e w' => e = .returned (.bool true) ∧ Below w.heap.size w w' := by
  have K : KeepR w w A n ra re := ⟨Below.refl _ _, hr⟩
  obtain ⟨hg1, hg2⟩ := hg
  obtain ⟨hb1, hb2⟩ := hb
  obtain ⟨hm, hmet, hl1⟩ := meetOf_ok hok hp
  have HM := hid hm
  have HV := hid (show neverOf ra re n = (0, 0, 5) by unfold neverOf; rw [if_pos hok, if_neg (by rw [hp]; simp)])
  have HO := hid (okB_true.1 hok)
  have HNN := hid (pairOf_false hp)
  have hl2 := lcmUp_le18 n HO.out.1.2 fun i hi => ⟨(HO.out.2 i hi).1, (HO.out.2 i hi).2.1⟩
  have hm1 := hmet.2.1
  have hm2 := hmet.2.2
  have HX := hid hmet
  have hH1 : ∀ x, 0 ≤ x → inAllB ra re n x = true → hitsOf ra re n x = (true, 0) := fun x h1 h2 => by unfold hitsOf; rw [if_pos hok, if_neg (by omega), h2]
  have hH2 : ∀ x, 0 ≤ x → inAllB ra re n x = false → hitsOf ra re n x = (false, 0) := fun x h1 h2 => by unfold hitsOf; rw [if_pos hok, if_neg (by omega), h2]
  have j1 := Int.emod_nonneg g (b := 8) (by omega)
  have j2 := Int.emod_lt_of_pos g (b := 8) (by omega)
  have j3 : 0 ≤ lcmUp re n * (g % 8) := Int.mul_nonneg (by omega) (by omega)
  have j4 : lcmUp re n * (g % 8) ≤ 1000000000000000000 * 7 := Int.mul_le_mul hl2 (by omega) (by omega) (by omega)
  have H1 := hid (hH1 (meetUp ra re n) hm1 (inAllB_true.2 hmet.1))
  have H2 := hid (hH1 (meetUp ra re n + lcmUp re n * (g % 8)) (by omega) (hits_again HO.out.2 hmet _))
  have H3 := hid (fun (h : 0 < meetUp ra re n) => hH2 (b % meetUp ra re n) (Int.emod_nonneg _ (by omega)) (hits_before HO.out.2 hmet _ (Int.emod_nonneg _ (by omega)) (Int.emod_lt_of_pos _ h)))
  clear hr hp hok hm hmet hH1 hH2
  go_enter Try.func4, Try.ntmps4
  go_wp2_with (first
    | (go_at_call 18; refine (long_any _ _ _ _).mono ?_; rintro e w' ⟨rfl, rfl⟩)
    | (go_at_call 20; refine (meet_any _ _ _ _ _ _ (KeepR.r (by assumption))).mono ?_; rintro e w' ⟨rfl, hb⟩; have K' := KeepR.next (by assumption) hb; clear hb; simp only [HM.out])
    | (go_at_call 22; refine (wNever_any _ _ _ _ _ _ (KeepR.r (by assumption))).mono ?_; rintro e w' ⟨rfl, hb⟩; have K' := KeepR.next (by assumption) hb; clear hb; simp only [HV.out])
    | (go_at_call 28; refine (areRounds_any _ _ _ _ _ _ (KeepR.r (by assumption))).mono ?_; rintro e w4 ⟨rfl, hb⟩; have K4 := KeepR.next (by assumption) hb; clear hb; have okh := okB_true.2 HO.out))
  have hn9 := K4.r.1
  go_loopw [117] (fun x wr => ∃ a : Nat, a ≤ n ∧ x = .int .i64 a ∧ KeepR w wr A n ra re) (fun x _ => n - (intOf x).toNat)
  case atStart => exact ⟨0, by omega, rfl, K4⟩
  case round =>
    obtain ⟨x, hx, rfl, Kx⟩ := hrel
    by_cases hlt : x < n
    · go_wp2_with fail
      go_loopw [121] (fun y wr => ∃ a : Nat, a ≤ x ∧ y = .int .i64 a ∧ KeepR w wr A n ra re) (fun y _ => x - (intOf y).toNat)
      case atStart => exact ⟨0, by omega, rfl, Kx⟩
      case round =>
        obtain ⟨y, hy, rfl, Ky⟩ := hrel
        by_cases hlt2 : y < x
        · have hA' := Ky.r
          obtain ⟨_, bl, off, hbl, hA, hc⟩ := hA'
          obtain rfl := hA (by omega)
          have hv1 := HO.out.2 y (by omega)
          have hv2 := HO.out.2 x hlt
          have hc1 := Later.cells (B := wr.heap.size) (w := wr) (hc y (by omega)).1 (hbl (by omega))
          have hc2 := Later.cells (B := wr.heap.size) (w := wr) (hc y (by omega)).2 (hbl (by omega))
          have hc3 := Later.cells (B := wr.heap.size) (w := wr) (hc x hlt).1 (hbl (by omega))
          have hc4 := Later.cells (B := wr.heap.size) (w := wr) (hc x hlt).2 (hbl (by omega))
          have hnv : (!nv (ra y) (re y) (ra x) (re x)) = true := by have := HNN.out y x hlt2 hlt; unfold nev at this; rw [this]; rfl
          have HQ := hid fun z : Later wr.heap.size wr => Calls.later_of (v := .bool true) (x := z) (Nat.le_refl _) (hnv ▸ divides_any (ra y) (re y) (ra x) (re x) z.up ⟨hv1.1, hv1.2.1⟩ ⟨hv2.1, hv2.2.1⟩ hv1.2.2 hv2.2.2)
          clear hc hv1 hv2 hnv hA
          go_wp2_with fail
          refine wp_region_later wr.heap.size (by kernel_rfl) (by kernel_rfl) ?_
          repeat (go_big_quiet_step ((go_at_call 29; exact HQ.out _)))
          refine wpQuiet_nil ?_
          rintro _ ⟨⟨w5, hb5⟩, rfl⟩
          go_wp2
          go_roundw
          case rel => exact ⟨y + 1, by omega, by go_num, Ky.next hb5⟩
          case measure => simp [intOf]; omega
        · go_wp2_with fail
          go_roundw
          case rel => exact ⟨x + 1, by omega, by go_num, Ky⟩
          case measure => simp [intOf]; omega
    · clear K4 K
      by_cases h0 : meetUp ra re n = 0
      · have h0' : (meetUp ra re n == 0) = true := by simpa using h0
        clear h0
        go_wp2_with (first
          | (go_at_call 26; refine (wHits_any _ _ _ _ _ _ _ (KeepR.r (by assumption))).mono ?_; rintro e w' ⟨rfl, hb⟩; have K' := KeepR.next (by assumption) hb; clear hb; simp only [H1.out, H2.out])
          | (go_at_call 19; refine (awake_any _).mono ?_; rintro e w' ⟨rfl, hb⟩; have K' := KeepR.next (by assumption) hb; clear hb))
        go_ret
        exact ⟨rfl, (by assumption : KeepR _ _ _ _ _ _).bel⟩
      · have h0' : (meetUp ra re n == 0) = false := by simpa using h0
        have h3 := hid (H3.out (by omega))
        have h4 : 0 < meetUp ra re n := by omega
        clear h0
        go_wp2_with (first
          | (go_at_call 26; refine (wHits_any _ _ _ _ _ _ _ (KeepR.r (by assumption))).mono ?_; rintro e w' ⟨rfl, hb⟩; have K' := KeepR.next (by assumption) hb; clear hb; simp only [H1.out, H2.out, h3.out])
          | (go_at_call 19; refine (awake_any _).mono ?_; rintro e w' ⟨rfl, hb⟩; have K' := KeepR.next (by assumption) hb; clear hb))
        go_ret
        exact ⟨rfl, (by assumption : KeepR _ _ _ _ _ _).bel⟩

theorem windowNevers_walk (A : Option Addr) (n c : Nat) (ra re : Nat → Int) (g b : Int) (w : World) (hr : RoundsAt w A n ra re) (hg : (Lit.int .u16 g).wf = true) (hb : (Lit.int .u32 b).wf = true) :
    Calls Try.prog 4 #[.slice A n c, .int .u16 g, .int .u32 b] w fun e w' => e = .returned (.bool true) ∧ Below w.heap.size w w' := by
  by_cases hl : (40 : Int) < n
  · exact nevers_long A n c g b w hl
  · cases hok : okB ra re n
    · exact nevers_bad A n c ra re g b w hr hl hok
    · rcases pairOf_spec (nev ra re) n with ⟨i, k, hp, hik, hk, hn⟩ | ⟨hp, _⟩
      · exact nevers_pair A n c ra re g b w hr hl hok i k hp hik hk hn
      · refine nevers_meet A n c ra re g b w hr hl hok (by rw [hp]) ?_ ?_
        · simp [Lit.wf, IntKind.min, IntKind.max, IntKind.bits, IntKind.signed] at hg; omega
        · simp [Lit.wf, IntKind.min, IntKind.max, IntKind.bits, IntKind.signed] at hb; omega
end Go.Proofs.Ytfabpkcgdblnbaa
