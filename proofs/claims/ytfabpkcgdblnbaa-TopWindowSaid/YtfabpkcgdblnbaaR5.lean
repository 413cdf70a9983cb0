/-
  The reference's IsNever and Meet; Long and Awake: what each returns. Conditions: the rounds lie in memory.
-/
import Derived.Test.YtfabpkcgdblnbaaR4
namespace Go.Proofs.Ytfabpkcgdblnbaa
set_option linter.unusedVariables false
set_option linter.unusedSimpArgs false
open Go.RowKit

theorem rIsNever_any (A : Option Addr) (n c : Nat) (ra re : Nat → Int) (i k : Int) (w : World) (hr : RoundsAt w A n ra re) :
    Calls Try.prog 25 #[.slice A n c, .int .i64 i, .int .i64 k] w fun e w' => e = .returned (.tuple #[.bool (isNeverOf ra re n i k).1, .int .i64 (isNeverOf ra re n i k).2]) ∧ Below w.heap.size w w' := by
  have hn := hr.1
  cases hb : okB ra re n
  · have e : isNeverOf ra re n i k = (false, 51) := by simp [isNeverOf, hb]
    rw [e]
    clear e
    go_enter Try.func25, Try.ntmps25
    go_wp2_with (go_at_call 28; refine (areRounds_any _ _ _ _ _ _ hr).mono ?_; rintro e w1 ⟨rfl, hb1⟩)
    go_ret2
    exact ⟨rfl, hb1⟩
  · have hok := hid (okB_true.1 hb)
    have e2 : ¬ (0 ≤ i ∧ i < k ∧ k < n) → isNeverOf ra re n i k = (false, 2) := fun hik => by unfold isNeverOf; rw [if_pos hb, if_neg hik]
    have E2 := hid e2
    clear e2
    by_cases h0 : i < 0
    · rw [E2.out (by omega)]
      go_enter Try.func25, Try.ntmps25
      go_wp2_with (go_at_call 28; refine (areRounds_any _ _ _ _ _ _ hr).mono ?_; rintro e w1 ⟨rfl, hb1⟩)
      go_ret2
      exact ⟨rfl, hb1⟩
    · by_cases h1 : k ≤ i
      · rw [E2.out (by omega)]
        go_enter Try.func25, Try.ntmps25
        go_wp2_with (go_at_call 28; refine (areRounds_any _ _ _ _ _ _ hr).mono ?_; rintro e w1 ⟨rfl, hb1⟩)
        go_ret2
        exact ⟨rfl, hb1⟩
      · by_cases h2 : (n : Int) ≤ k
        · rw [E2.out (by omega)]
          go_enter Try.func25, Try.ntmps25
          go_wp2_with (go_at_call 28; refine (areRounds_any _ _ _ _ _ _ hr).mono ?_; rintro e w1 ⟨rfl, hb1⟩)
          go_ret2
          exact ⟨rfl, hb1⟩
        · have e : isNeverOf ra re n i k = (nev ra re i.toNat k.toNat, 0) := by unfold isNeverOf; rw [if_pos hb, if_pos (by omega)]
          rw [e]
          clear e
          obtain ⟨x, rfl⟩ := Int.eq_ofNat_of_zero_le (show 0 ≤ i by omega)
          obtain ⟨y, rfl⟩ := Int.eq_ofNat_of_zero_le (show 0 ≤ k by omega)
          have hx : x < n := by omega
          have hy : y < n := by omega
          obtain ⟨_, b, off, hbl, hA, hc⟩ := hid hr
          obtain rfl := hA (by omega)
          have hv1 := hok.out.2 x hx
          have hv2 := hok.out.2 y hy
          go_enter Try.func25, Try.ntmps25
          go_wp2_with (go_at_call 28; refine (areRounds_any _ _ _ _ _ _ hr).mono ?_; rintro e w1 ⟨rfl, hb1⟩)
          have hs := hb1.size
          have hc1 := Later.cells (B := w.heap.size) (w := w1) ((hb1.cell (p := ⟨b, off + x * 2, none⟩) (hbl (by omega))).trans (hc x hx).1) (hbl (by omega))
          have hc2 := Later.cells (B := w.heap.size) (w := w1) ((hb1.cell (p := ⟨b, off + x * 2 + 1, none⟩) (hbl (by omega))).trans (hc x hx).2) (hbl (by omega))
          have hc3 := Later.cells (B := w.heap.size) (w := w1) ((hb1.cell (p := ⟨b, off + y * 2, none⟩) (hbl (by omega))).trans (hc y hy).1) (hbl (by omega))
          have hc4 := Later.cells (B := w.heap.size) (w := w1) ((hb1.cell (p := ⟨b, off + y * 2 + 1, none⟩) (hbl (by omega))).trans (hc y hy).2) (hbl (by omega))
          have HQ := hid fun z : Later w.heap.size w1 => Calls.later_of (x := z) hs (refNever_any (ra x) (re x) (ra y) (re y) z.up ⟨hv1.1, hv1.2.1⟩ ⟨hv2.1, hv2.2.1⟩ hv1.2.2 hv2.2.2)
          clear hc hv1 hv2
          refine wp_region_later w.heap.size (by kernel_rfl) (by kernel_rfl) ?_
          repeat (go_big_quiet_step ((go_at_call 67; exact HQ.out _)))
          refine wpQuiet_nil ?_
          rintro _ ⟨⟨w3, hb3⟩, rfl⟩
          go_wp2
          go_ret2
          exact ⟨rfl, hb1.trans hb3⟩

set_option maxHeartbeats 1000000 in
theorem rMeet_any (A : Option Addr) (n c : Nat) (ra re : Nat → Int) (w : World) (hr : RoundsAt w A n ra re) :
    Calls Try.prog 21 #[.slice A n c] w fun e w' => e = .returned (.tuple #[.int .i64 (meetOf ra re n).1, .int .i64 (meetOf ra re n).2.1, .int .i64 (meetOf ra re n).2.2]) ∧ Below w.heap.size w w' := by
  cases hb : okB ra re n
  · have e : meetOf ra re n = (0, 0, 51) := by simp [meetOf, hb]
    rw [e]
    clear e
    go_enter Try.func21, Try.ntmps21
    go_wp2_with (go_at_call 28; refine (areRounds_any _ _ _ _ _ _ hr).mono ?_; rintro e w1 ⟨rfl, hb1⟩)
    go_ret3
    exact ⟨rfl, hb1⟩
  · have HO := hid (okB_true.1 hb)
    have n6 := HO.out.1.2
    have hno : ∀ i k, i < k → k < n → nev ra re i k = true → meetOf ra re n = (0, 0, 5) := fun i k h1 h2 h3 => by
      unfold meetOf; rw [if_pos hb, if_pos (pairOf_true h1 h2 h3)]
    have hyes : (∀ i k, i < k → k < n → nev ra re i k = false) → meetOf ra re n = (meetUp ra re n, lcmUp re n, 0) := fun h => by
      unfold meetOf; rw [if_pos hb, pairOf_none h]; rfl
    have NO := hid hno
    have YES := hid hyes
    clear hno hyes
    go_enter Try.func21, Try.ntmps21
    go_wp2_with (go_at_call 28; refine (areRounds_any _ _ _ _ _ _ hr).mono ?_; rintro e w1 ⟨rfl, hb1⟩)
    obtain ⟨hn, b, off, hbl, hA, hc⟩ := hr.below hb1
    go_loopw [2, 3, 14] (fun x y z wr => ∃ k : Nat, k ≤ n ∧ x = .int .i64 (meetUp ra re k) ∧ y = .int .i64 (lcmUp re k) ∧ z = .int .i64 k ∧ Met ra re k ∧ Below w1.heap.size w1 wr) (fun _ _ z _ => n - (intOf z).toNat)
    case atStart => exact ⟨0, by omega, rfl, rfl, rfl, met_zero _ _, Below.refl _ _⟩
    case round =>
      obtain ⟨k, hk, rfl, rfl, rfl, hmet, hB⟩ := hrel
      have HM := hid hmet
      obtain ⟨hin, hm0, hm1⟩ := hmet
      clear hin
      by_cases hlt : k < n
      · obtain rfl := hA (by omega)
        have HVK : Hid (Valids ra re (k + 1)) := hid fun i hi => HO.out.2 i (by omega)
        have hc1 := (hB.cell (p := ⟨b, off + k * 2, none⟩) (hbl (by omega))).trans (hc k hlt).1
        have hc2 := (hB.cell (p := ⟨b, off + k * 2 + 1, none⟩) (hbl (by omega))).trans (hc k hlt).2
        have HC := hid hc
        clear hc hA
        obtain ⟨v1, v2, v3, v4⟩ := HO.out.2 k hlt
        have hl1 := lcmUp_pos k (fun i hi => (HO.out.2 i (by omega)).1)
        have hl2 := lcmUp_le15 k (by omega) (fun i hi => ⟨(HO.out.2 i (by omega)).1, (HO.out.2 i (by omega)).2.1⟩)
        have hne : (re k == 0) = false := by simp; omega
        have hprod : lcmUp re k * re k ≤ 1000000000000000 * 1000 := Int.mul_le_mul hl2 v2 (by omega) (by omega)
        have hlc2 := lcmI_le (lcmUp re k) (re k) (by omega) (by omega)
        have hb3 : Below w1.heap.size w1 (wr.alloc (.cells #[.int .i64 (ra k), .int .i64 (re k)] 36)) := hB.alloc hB.size _
        go_wp2_with fail
        go_loopg [2, 7, 8] ((re k).toNat + 1) (fun g x met z wi => ∃ j : Nat, z = .int .i64 j ∧ (j : Int) ≤ re k ∧ j + g = (re k).toNat + 1 ∧ (∃ m, wi = (wr.alloc (.cells #[.int .i64 (ra k), .int .i64 (re k)] 36)).drewN m) ∧
            ((met = .bool false ∧ x = .int .i64 (meetUp ra re k) ∧ Hid (∀ i : Nat, i < j → (meetUp ra re k + i * lcmUp re k) % re k ≠ ra k)) ∨
             (met = .bool true ∧ x = .int .i64 (meetUp ra re (k + 1)) ∧ Hid (Met ra re (k + 1)))))
        case atStart => exact ⟨0, rfl, by omega, by omega, ⟨0, rfl⟩, .inl ⟨rfl, rfl, hid (by omega)⟩⟩
        case round =>
          obtain ⟨j, rfl, hj, hjg, ⟨m, rfl⟩, hcase⟩ := hrel
          have HG := hid hjg
          clear hjg
          rcases hcase with ⟨rfl, rfl, HNO⟩ | ⟨rfl, rfl, HM'⟩
          · by_cases hlt2 : (j : Int) < re k
            · have p1 : (0 : Int) ≤ j * lcmUp re k := Int.mul_nonneg (by omega) (by omega)
              have p2 : (j : Int) * lcmUp re k ≤ 1000 * 1000000000000000 := Int.mul_le_mul (by omega) hl2 (by omega) (by omega)
              by_cases hit : (meetUp ra re k + j * lcmUp re k) % re k = ra k
              · obtain ⟨hM', hE⟩ := met_step HVK.out HM.out hlt2 hit HNO.out
                have HM' := hid hM'
                have HE := hid hE
                have hit2 : ((meetUp ra re k + j * lcmUp re k) % re k == ra k) = true := by simpa using hit
                clear hit hM' hE
                go_wp2
                go_quiet (fail)
                go_wp2
                go_roundg ((re k).toNat - j)
                case measure => have := HG.out; omega
                case rel => exact ⟨j + 1, by go_num, by omega, by omega, ⟨m + nq, by simp⟩, .inr ⟨rfl, by rw [HE.out], HM'⟩⟩
              · have hit2 : ((meetUp ra re k + j * lcmUp re k) % re k == ra k) = false := by simpa using hit
                have HX := hid hit
                clear hit
                go_wp2
                go_quiet (fail)
                go_wp2
                go_roundg ((re k).toNat - j)
                case measure => have := HG.out; omega
                case rel => exact ⟨j + 1, by go_num, by omega, by omega, ⟨m + nq, by simp⟩, .inl ⟨rfl, rfl, hid (fun i hi => by (by_cases e : i = j; (subst e; exact HX.out); exact HNO.out i (by omega)))⟩⟩
            · -- not met: two of them never meet
              have hE : meetOf ra re n = (0, 0, 5) := by
                apply Classical.byContradiction
                intro hcon
                have hp : ∀ i, i < k → nev ra re i k = false := fun i hi => by
                  cases e : nev ra re i k
                  · rfl
                  · exact absurd (NO.out i k hi hlt e) hcon
                obtain ⟨j', h1, h2⟩ := met_hit HVK.out HM.out hp
                exact HNO.out j' (by omega) h2
              have HE := hid hE
              clear hE
              go_wp2
              go_ret3
              exact ⟨by rw [HE.out]; rfl, hb1.trans ((bdn hb3 _).mono hb1.size)⟩
          · by_cases hlt2 : (j : Int) < re k
            all_goals
              go_wp2_with (go_at_call 66; refine (multiple_any _ _ _ (by omega) (by omega) (by omega) (by omega) (by omega)).mono ?_; rintro e w3 ⟨rfl, m4, rfl⟩)
              go_roundw
              case rel => exact ⟨k + 1, by omega, rfl, rfl, by go_num, HM'.out, bdn hb3 _⟩
              case measure => simp [intOf]; omega
      · obtain rfl : k = n := by omega
        have hE : meetOf ra re k = (meetUp ra re k, lcmUp re k, 0) := YES.out fun i j h1 h2 => nev_of_meet HM.out.1 (by omega) h2
        have HE := hid hE
        clear hE
        go_wp2
        go_ret3
        exact ⟨by rw [HE.out]; rfl, hb1.trans (hB.mono hb1.size)⟩
end Go.Proofs.Ytfabpkcgdblnbaa
