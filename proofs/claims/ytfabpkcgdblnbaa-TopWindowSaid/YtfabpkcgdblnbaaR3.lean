/-
  window.Meet, window.Never, window.IsNever, window.Hits: what each returns. Conditions: the rounds lie in memory; stated at each.
-/
import Derived.Test.YtfabpkcgdblnbaaR2
import Derived.Deep.LoopGhost
namespace Go.Proofs.Ytfabpkcgdblnbaa
set_option linter.unusedVariables false
set_option linter.unusedSimpArgs false
open Go.RowKit

def neverOf (ra re : Nat → Int) (n : Nat) : Int × Int × Int :=
  if okB ra re n then (if (pairOf (nev ra re) n).2.2 then ((pairOf (nev ra re) n).1, (pairOf (nev ra re) n).2.1, 0) else (0, 0, 5)) else (0, 0, 51)
def meetOf (ra re : Nat → Int) (n : Nat) : Int × Int × Int :=
  if okB ra re n then (if (pairOf (nev ra re) n).2.2 then (0, 0, 5) else (meetUp ra re n, lcmUp re n, 0)) else (0, 0, 51)
def isNeverOf (ra re : Nat → Int) (n : Nat) (i k : Int) : Bool × Int :=
  if okB ra re n then (if 0 ≤ i ∧ i < k ∧ k < n then (nev ra re i.toNat k.toNat, 0) else (false, 2)) else (false, 51)
def inAllB (ra re : Nat → Int) (n : Nat) (h : Int) : Bool := !anyB n (fun i => h % re i != ra i)
def hitsOf (ra re : Nat → Int) (n : Nat) (h : Int) : Bool × Int :=
  if okB ra re n then (if h < 0 then (false, 2) else (inAllB ra re n h, 0)) else (false, 51)

set_option maxHeartbeats 1000000 in
theorem meet_ok (A : Option Addr) (n c : Nat) (ra re : Nat → Int) (w : World) (h : RoundsAt w A n ra re) (hok : OkR ra re n) (hp : (pairOf (nev ra re) n).2.2 = false) :
    Calls Try.prog 20 #[.slice A n c] w fun e w' => e = .returned (.tuple #[.int .i64 (meetUp ra re n), .int .i64 (lcmUp re n), .int .i64 0]) ∧ Below w.heap.size w w' := by
  have HO := hid hok
  obtain ⟨⟨n1, n6⟩, hv⟩ := hok
  have HV := hid hv
  have HNN := hid (pairOf_false hp)
  clear hv
  have HH := hid h
  have hn := h.1
  clear h
  go_enter Try.func20, Try.ntmps20
  go_wp2_with (first | (go_at_call 63; refine (newR_yes _ _ _ _ _ _ HH.out HO.out).mono ?_; rintro e w1 ⟨rfl, hb1⟩) | (go_at_call 64; refine (pair_any _ _ _ _ _ _ (HH.out.below hb1) HV.out).mono ?_; rintro e w2 ⟨rfl, m2, rfl⟩))
  have hb0 := bdn hb1 m2
  have HW := hid (HH.out.below hb0)
  clear hb1 hp
  generalize w1.drewN m2 = w2 at *
  go_loopw [2, 3, 29] (fun x y z wr => ∃ k : Nat, k ≤ n ∧ x = .int .i64 (meetUp ra re k) ∧ y = .int .i64 (lcmUp re k) ∧ z = .int .i64 k ∧ Met ra re k ∧ Below w2.heap.size w2 wr) (fun _ _ z _ => n - (intOf z).toNat)
  case atStart => exact ⟨0, by omega, rfl, rfl, rfl, met_zero _ _, Below.refl _ _⟩
  case round =>
    obtain ⟨k, hk, rfl, rfl, rfl, hmet, hB⟩ := hrel
    have HM := hid hmet
    obtain ⟨hin, hm0, hm1⟩ := hmet
    clear hin
    by_cases hlt : k < n
    · have hvk : Valids ra re (k + 1) := fun i hi => HV.out i (by omega)
      obtain ⟨j0, hj0, hhit⟩ := met_hit hvk HM.out (fun i hi => HNN.out i k hi hlt)
      have HVK := hid hvk
      have HIT := hid hhit
      clear hvk hhit
      obtain ⟨_, b, off, hb, hA, hc⟩ := HW.out
      obtain rfl := hA (by omega)
      have hc1 := (hB.cell (p := ⟨b, off + k * 2, none⟩) (hb (by omega))).trans (hc k hlt).1
      have hc2 := (hB.cell (p := ⟨b, off + k * 2 + 1, none⟩) (hb (by omega))).trans (hc k hlt).2
      clear hc hA
      obtain ⟨v1, v2, v3, v4⟩ := HV.out k hlt
      have hl1 := lcmUp_pos k (fun i hi => (HV.out i (by omega)).1)
      have hl2 := lcmUp_le15 k (by omega) (fun i hi => ⟨(HV.out i (by omega)).1, (HV.out i (by omega)).2.1⟩)
      have hne : (re k == 0) = false := by simp; omega
      have hprod : lcmUp re k * re k ≤ 1000000000000000 * 1000 := Int.mul_le_mul hl2 v2 (by omega) (by omega)
      have hlc := lcmI_pos (lcmUp re k) (re k) (by omega) (by omega)
      have hlc2 := lcmI_le (lcmUp re k) (re k) (by omega) (by omega)
      have hne2 : (lcmI (lcmUp re k) (re k) == 0) = false := by simp; omega
      have hb3 : Below w2.heap.size w2 (wr.alloc (.cells #[.int .i64 (ra k), .int .i64 (re k)] 36)) := hB.alloc hB.size _
      go_wp2_with fail
      go_loopg [2] (j0 + 1) (fun g x wi => ∃ j : Nat, j + g = j0 + 1 ∧ 0 < g ∧ x = .int .i64 (meetUp ra re k + j * lcmUp re k) ∧ Hid (∀ i : Nat, i < j → (meetUp ra re k + i * lcmUp re k) % re k ≠ ra k) ∧ ∃ m, wi = (wr.alloc (.cells #[.int .i64 (ra k), .int .i64 (re k)] 36)).drewN m)
      case atStart => exact ⟨0, by omega, by omega, by simp, hid (by omega), 0, rfl⟩
      case round =>
        obtain ⟨j, hjg, hg0, rfl, HNO, m, rfl⟩ := hrel
        have p1 : (0 : Int) ≤ j * lcmUp re k := Int.mul_nonneg (by omega) (by omega)
        have p2 : (j : Int) * lcmUp re k ≤ 1000 * 1000000000000000 := Int.mul_le_mul (by omega) hl2 (by omega) (by omega)
        by_cases hit : (meetUp ra re k + j * lcmUp re k) % re k = ra k
        · obtain ⟨hM', hE⟩ := met_step HVK.out HM.out (by omega) hit HNO.out
          have HM' := hid hM'
          have HE := hid hE
          have hit2 : ((meetUp ra re k + j * lcmUp re k) % re k != ra k) = false := by simpa using hit
          clear hit hM' hE hjg
          go_wp2
          go_quiet (fail)
          go_wp2_with (go_at_call 65; refine (common_any _ _ _ (by omega) (by omega) (by omega) (by omega) (by omega)).mono ?_; rintro e w3 ⟨rfl, m4, rfl⟩)
          go_roundw
          case rel => exact ⟨k + 1, by omega, congrArg (Value.int .i64) (by rw [← HE.out]; exact Int.emod_eq_of_lt HM'.out.2.1 HM'.out.2.2), rfl, by go_num, HM'.out, bdn hb3 _⟩
          case measure => simp [intOf]; omega
        · have hit2 : ((meetUp ra re k + j * lcmUp re k) % re k != ra k) = true := by simpa using hit
          have hlt2 : j < j0 := by
            rcases Nat.lt_or_ge j j0 with h | h
            · exact h
            · obtain rfl : j = j0 := by omega
              exact absurd HIT.out hit
          have HX := hid hit
          clear hit
          have HG := hid hjg
          clear hjg
          go_wp2
          go_quiet (fail)
          go_wp2
          go_roundg (j0 - j)
          case measure => have := HG.out; omega
          case rel => exact ⟨j + 1, by omega, by omega, by rw [show ((j + 1 : Nat) : Int) = (j : Int) + 1 from by omega, Int.add_mul, Int.one_mul, Int.add_assoc], hid (fun i hi => by (by_cases e : i = j; (subst e; exact HX.out); exact HNO.out i (by omega))), m + nq, by simp⟩
    · obtain rfl : k = n := by omega
      go_wp2
      go_ret3
      exact ⟨rfl, hb0.trans (hB.mono hb0.size)⟩

theorem meet_any (A : Option Addr) (n c : Nat) (ra re : Nat → Int) (w : World) (h : RoundsAt w A n ra re) :
    Calls Try.prog 20 #[.slice A n c] w fun e w' => e = .returned (.tuple #[.int .i64 (meetOf ra re n).1, .int .i64 (meetOf ra re n).2.1, .int .i64 (meetOf ra re n).2.2]) ∧ Below w.heap.size w w' := by
  cases hb : okB ra re n
  · have e : meetOf ra re n = (0, 0, 51) := by simp [meetOf, hb]
    rw [e]
    have hno := hid (okB_false.1 hb)
    clear hb e
    go_enter Try.func20, Try.ntmps20
    go_wp2_with (go_at_call 63; refine (newR_no _ _ _ _ _ _ h hno.out).mono ?_; rintro e w1 ⟨rfl, hb1⟩)
    go_ret3
    exact ⟨rfl, hb1⟩
  · have hok := hid (okB_true.1 hb)
    cases hp : (pairOf (nev ra re) n).2.2
    · have e : meetOf ra re n = (meetUp ra re n, lcmUp re n, 0) := by simp [meetOf, hb, hp]
      rw [e]
      exact meet_ok A n c ra re w h hok.out hp
    · have e : meetOf ra re n = (0, 0, 5) := by simp [meetOf, hb, hp]
      rw [e]
      clear hb e
      go_enter Try.func20, Try.ntmps20
      go_wp2_with (first | (go_at_call 63; refine (newR_yes _ _ _ _ _ _ h hok.out).mono ?_; rintro e w1 ⟨rfl, hb1⟩) | (go_at_call 64; refine (pair_any _ _ _ _ _ _ (h.below hb1) hok.out.2).mono ?_; rintro e w2 ⟨rfl, m2, rfl⟩))
      go_ret3
      exact ⟨rfl, bdn hb1 _⟩

theorem wNever_any (A : Option Addr) (n c : Nat) (ra re : Nat → Int) (w : World) (h : RoundsAt w A n ra re) :
    Calls Try.prog 22 #[.slice A n c] w fun e w' => e = .returned (.tuple #[.int .i64 (neverOf ra re n).1, .int .i64 (neverOf ra re n).2.1, .int .i64 (neverOf ra re n).2.2]) ∧ Below w.heap.size w w' := by
  cases hb : okB ra re n
  · have e : neverOf ra re n = (0, 0, 51) := by simp [neverOf, hb]
    rw [e]
    have hno := hid (okB_false.1 hb)
    clear hb e
    go_enter Try.func22, Try.ntmps22
    go_wp2_with (go_at_call 63; refine (newR_no _ _ _ _ _ _ h hno.out).mono ?_; rintro e w1 ⟨rfl, hb1⟩)
    go_ret3
    exact ⟨rfl, hb1⟩
  · have hok := hid (okB_true.1 hb)
    cases hp : (pairOf (nev ra re) n).2.2
    · have e : neverOf ra re n = (0, 0, 5) := by simp [neverOf, hb, hp]
      rw [e]
      clear hb e
      go_enter Try.func22, Try.ntmps22
      go_wp2_with (first | (go_at_call 63; refine (newR_yes _ _ _ _ _ _ h hok.out).mono ?_; rintro e w1 ⟨rfl, hb1⟩) | (go_at_call 64; refine (pair_any _ _ _ _ _ _ (h.below hb1) hok.out.2).mono ?_; rintro e w2 ⟨rfl, m2, rfl⟩))
      go_ret3
      exact ⟨rfl, bdn hb1 _⟩
    · have e : neverOf ra re n = ((pairOf (nev ra re) n).1, (pairOf (nev ra re) n).2.1, 0) := by simp [neverOf, hb, hp]
      rw [e]
      clear hb e
      go_enter Try.func22, Try.ntmps22
      go_wp2_with (first | (go_at_call 63; refine (newR_yes _ _ _ _ _ _ h hok.out).mono ?_; rintro e w1 ⟨rfl, hb1⟩) | (go_at_call 64; refine (pair_any _ _ _ _ _ _ (h.below hb1) hok.out.2).mono ?_; rintro e w2 ⟨rfl, m2, rfl⟩))
      go_ret3
      exact ⟨rfl, bdn hb1 _⟩

theorem wIsNever_any (A : Option Addr) (n c : Nat) (ra re : Nat → Int) (i k : Int) (w : World) (h : RoundsAt w A n ra re) :
    Calls Try.prog 24 #[.slice A n c, .int .i64 i, .int .i64 k] w fun e w' => e = .returned (.tuple #[.bool (isNeverOf ra re n i k).1, .int .i64 (isNeverOf ra re n i k).2]) ∧ Below w.heap.size w w' := by
  cases hb : okB ra re n
  · have e : isNeverOf ra re n i k = (false, 51) := by simp [isNeverOf, hb]
    rw [e]
    have hno := hid (okB_false.1 hb)
    clear hb e
    go_enter Try.func24, Try.ntmps24
    go_wp2_with (go_at_call 63; refine (newR_no _ _ _ _ _ _ h hno.out).mono ?_; rintro e w1 ⟨rfl, hb1⟩)
    go_ret2
    exact ⟨rfl, hb1⟩
  · have hok := hid (okB_true.1 hb)
    have n1 := hok.out.1.1
    have n6 := hok.out.1.2
    by_cases hik : 0 ≤ i ∧ i < k ∧ k < n
    · have e : isNeverOf ra re n i k = (nev ra re i.toNat k.toNat, 0) := by unfold isNeverOf; rw [if_pos hb, if_pos hik]
      rw [e]
      clear hb e
      obtain ⟨h0, h1, h2⟩ := hik
      obtain ⟨x, rfl⟩ := Int.eq_ofNat_of_zero_le h0
      obtain ⟨y, rfl⟩ := Int.eq_ofNat_of_zero_le (show 0 ≤ k by omega)
      have hb1 : btw 0 (x : Int) ((y : Int) - 1) = true := btw_true (by omega) (by omega)
      have hb2 : btw 1 (y : Int) ((n : Int) - 1) = true := btw_true (by omega) (by omega)
      go_enter Try.func24, Try.ntmps24
      go_wp2_with (first | (go_at_call 63; refine (newR_yes _ _ _ _ _ _ h hok.out).mono ?_; rintro e w1 ⟨rfl, hb1⟩) | (go_at_call 68; refine (between_any _ _ _ _).mono ?_; rintro e w' ⟨rfl, rfl⟩) | (go_at_call 69; refine (never_any _ _ _ _ _ _ _ _ (h.below hb1) hok.out.2 (by omega) (by omega)).mono ?_; rintro e w2 ⟨rfl, m2, rfl⟩))
      go_ret2
      exact ⟨rfl, bdn hb1 _⟩
    · have e : isNeverOf ra re n i k = (false, 2) := by unfold isNeverOf; rw [if_pos hb, if_neg hik]
      rw [e]
      clear hb e
      have hb2 : btw 0 i (wrap64 (k - 1)) = true → btw 1 k ((n : Int) - 1) = false := by
        intro hx
        rw [btw_iff] at hx
        refine btw_false ?_
        rcases Int.lt_or_le k 1 with h1 | h1
        · exact .inl h1
        · rcases Int.lt_or_le ((n : Int) - 1) k with h2 | h2
          · exact .inr h2
          · rw [IntWalk.wrap64_in (k - 1) (by omega)] at hx
            exact absurd ⟨hx.1, by omega, by omega⟩ hik
      clear hik
      cases hb1 : btw 0 i (wrap64 (k - 1))
      · clear hb2
        go_enter Try.func24, Try.ntmps24
        go_wp2_with (first | (go_at_call 63; refine (newR_yes _ _ _ _ _ _ h hok.out).mono ?_; rintro e w1 ⟨rfl, hb1⟩) | (go_at_call 68; refine (between_any _ _ _ _).mono ?_; rintro e w' ⟨rfl, rfl⟩))
        go_ret2
        exact ⟨rfl, hb1⟩
      · have hb3 := hb2 hb1
        clear hb2
        go_enter Try.func24, Try.ntmps24
        go_wp2_with (first | (go_at_call 63; refine (newR_yes _ _ _ _ _ _ h hok.out).mono ?_; rintro e w1 ⟨rfl, hb1⟩) | (go_at_call 68; refine (between_any _ _ _ _).mono ?_; rintro e w' ⟨rfl, rfl⟩))
        go_ret2
        exact ⟨rfl, hb1⟩
end Go.Proofs.Ytfabpkcgdblnbaa
