/-
  The reference's functions on rounds (package skimmerref05): what each returns, by its contract. Conditions: stated at each.
-/
import Derived.Test.YtfabpkcgdblnbaaR1
namespace Go.Proofs.Ytfabpkcgdblnbaa
set_option linter.unusedVariables false
set_option linter.unusedSimpArgs false
open Go.RowKit

def okB (ra re : Nat → Int) (n : Nat) : Bool := decide (1 ≤ n ∧ n ≤ 6) && !anyBad ra re n
theorem okB_true {ra re : Nat → Int} {n : Nat} : okB ra re n = true ↔ OkR ra re n := by
  unfold okB OkR
  rw [Bool.and_eq_true, decide_eq_true_iff, Bool.not_eq_true']
  exact ⟨fun ⟨h, k⟩ => ⟨h, valids_of k⟩, fun ⟨h, k⟩ => ⟨h, anyBad_of k⟩⟩
theorem okB_false {ra re : Nat → Int} {n : Nat} : okB ra re n = false ↔ ¬ OkR ra re n := by rw [← okB_true]; simp

theorem okB_len {ra re : Nat → Int} {n : Nat} (h : ¬ (1 ≤ n ∧ n ≤ 6)) : okB ra re n = false := okB_false.2 fun hk => h hk.1
theorem okB_mk {ra re : Nat → Int} {n : Nat} (h : 1 ≤ n ∧ n ≤ 6) (ha : anyBad ra re n = false) : okB ra re n = true := okB_true.2 ⟨h, valids_of ha⟩
/-- AreRounds -/
theorem areRounds_any (A : Option Addr) (n c : Nat) (ra re : Nat → Int) (w : World) (h : RoundsAt w A n ra re) :
    Calls Try.prog 28 #[.slice A n c] w fun e w' => e = .returned (.bool (okB ra re n)) ∧ Below w.heap.size w w' := by
  obtain ⟨hn, b, off, hb, hA, hc⟩ := h
  go_enter Try.func28, Try.ntmps28
  go_wp2_with fail
  go_loopw [7] (fun i wr => ∃ k : Nat, k ≤ n ∧ i = .int .i64 k ∧ Hid (∀ j, j < k → badR (ra j) (re j) = false) ∧ Below w.heap.size w wr) (fun i _ => n - (intOf i).toNat)
  case atStart => exact ⟨0, by omega, rfl, hid (by omega), Below.refl _ _⟩
  case round =>
    obtain ⟨k, hk, rfl, HN, hB⟩ := hrel
    by_cases hlt : k < n
    · obtain rfl := hA (by omega)
      have hc1 := (hB.cell (p := ⟨b, off + k * 2, none⟩) (hb (by omega))).trans (hc k hlt).1
      have hc2 := (hB.cell (p := ⟨b, off + k * 2 + 1, none⟩) (hb (by omega))).trans (hc k hlt).2
      clear hc
      have no : badR (ra k) (re k) = true → okB ra re n = false := fun hb => okB_false.2 fun ⟨_, hv⟩ => by
        have := badR_false.2 (hv k hlt); rw [hb] at this; cases this
      have NO := hid no
      clear no
      by_cases h1 : re k < 1
      · have hbad := hid (NO.out (by cases e : badR (ra k) (re k); (have := badR_false.1 e; omega); rfl))
        go_wp2
        go_ret
        exact ⟨ret_bool (by rw [hbad.out]), (hB.alloc hB.size _)⟩
      · by_cases h2 : 1000 < re k
        · have hbad := hid (NO.out (by cases e : badR (ra k) (re k); (have := badR_false.1 e; omega); rfl))
          go_wp2
          go_ret
          exact ⟨ret_bool (by rw [hbad.out]), (hB.alloc hB.size _)⟩
        · by_cases h3 : ra k < 0
          · have hbad := hid (NO.out (by cases e : badR (ra k) (re k); (have := badR_false.1 e; omega); rfl))
            go_wp2
            go_ret
            exact ⟨ret_bool (by rw [hbad.out]), (hB.alloc hB.size _)⟩
          · by_cases h4 : re k ≤ ra k
            · have hbad := hid (NO.out (by cases e : badR (ra k) (re k); (have := badR_false.1 e; omega); rfl))
              go_wp2
              go_ret
              exact ⟨ret_bool (by rw [hbad.out]), (hB.alloc hB.size _)⟩
            · have hgood := hid (badR_false.2 (show 1 ≤ re k ∧ re k ≤ 1000 ∧ 0 ≤ ra k ∧ ra k < re k by omega))
              go_wp2
              go_roundw
              case rel => exact ⟨k + 1, by omega, by go_num, hid (fun j hj => by (by_cases e : j = k; (subst e; exact hgood.out); exact HN.out j (by omega))), hB.alloc hB.size _⟩
              case measure => simp [intOf]; omega
    · have hno : anyBad ra re n = false := anyB_false.2 fun j hj => HN.out j (by omega)
      have HA := hid hno
      clear hno
      by_cases h1 : 1 ≤ n
      · by_cases h2 : n ≤ 6
        · have HK : Hid (okB ra re n = true) := hid (okB_mk ⟨h1, h2⟩ HA.out)
          go_wp2
          go_ret
          exact ⟨ret_bool (by rw [HK.out] <;> first | rfl | (simp; done) | (simp; omega)), hB⟩
        · have HK : Hid (okB ra re n = false) := hid (okB_len (by omega))
          go_wp2
          go_ret
          exact ⟨ret_bool (by rw [HK.out] <;> first | rfl | (simp; done) | (simp; omega)), hB⟩
      · have HK : Hid (okB ra re n = false) := hid (okB_len (by omega))
        go_wp2
        go_ret
        exact ⟨ret_bool (by rw [HK.out] <;> first | rfl | (simp; done) | (simp; omega)), hB⟩

/-- never -/
theorem refNever_any (a1 e1 a2 e2 : Int) (w : World) (h1 : 1 ≤ e1 ∧ e1 ≤ 1000) (h2 : 1 ≤ e2 ∧ e2 ≤ 1000) (h3 : 0 ≤ a1 ∧ a1 < e1) (h4 : 0 ≤ a2 ∧ a2 < e2) :
    Calls Try.prog 67 #[.agg #[.int .i64 a1, .int .i64 e1], .agg #[.int .i64 a2, .int .i64 e2]] w fun e w' => e = .returned (.bool (nv a1 e1 a2 e2)) ∧ Below w.heap.size w w' := by
  obtain ⟨h1, h1'⟩ := h1
  obtain ⟨h2, h2'⟩ := h2
  obtain ⟨h3, h3'⟩ := h3
  obtain ⟨h4, h4'⟩ := h4
  have hb0 : Below w.heap.size w ((w.alloc (.cells #[.int .i64 a1, .int .i64 e1] 36)).alloc (.cells #[.int .i64 a2, .int .i64 e2] 36)) := ((Below.refl _ _).alloc (Nat.le_refl _) _).alloc (by simp) _
  go_enter Try.func67, Try.ntmps67
  go_wp2_with fail
  go_loopw [8] (fun i wr => ∃ k : Nat, (k : Int) ≤ e2 ∧ i = .int .i64 k ∧ Hid (∀ j : Nat, j < k → (a1 + j * e1) % e2 ≠ a2) ∧ ∃ m, wr = (((w.alloc (.cells #[.int .i64 a1, .int .i64 e1] 36)).alloc (.cells #[.int .i64 a2, .int .i64 e2] 36)).drewN m)) (fun i _ => (e2 - intOf i).toNat)
  case atStart => exact ⟨0, by omega, rfl, hid (by omega), 0, rfl⟩
  case round =>
    obtain ⟨k, hk, rfl, HN, m, rfl⟩ := hrel
    by_cases hlt : (k : Int) < e2
    · have hp : (0 : Int) ≤ k * e1 := Int.mul_nonneg (by omega) (by omega)
      have hp2 : (k : Int) * e1 ≤ 1000 * 1000 := Int.mul_le_mul (by omega) (by omega) (by omega) (by omega)
      have hne : (e2 == 0) = false := by simp; omega
      by_cases hit : (a1 + k * e1) % e2 = a2
      · have HI := hid (nv_found hit)
        have hit2 : ((a1 + k * e1) % e2 == a2) = true := by simpa using hit
        clear hit
        go_wp2
        go_quiet (fail)
        go_wp2
        go_ret
        exact ⟨ret_bool (by rw [HI.out]), bdn (bdn hb0 _) _⟩
      · have hit2 : ((a1 + k * e1) % e2 == a2) = false := by simpa using hit
        have HI := hid hit
        clear hit
        go_wp2
        go_quiet (fail)
        go_wp2
        go_roundw
        case rel => exact ⟨k + 1, by omega, by go_num, hid (fun j hj => by (by_cases e : j = k; (subst e; exact HI.out); exact HN.out j (by omega))), m + nq, by simp⟩
        case measure => simp [intOf]; omega
    · have HI := hid (nv_not (a := a1) (e := e1) (b := a2) (f := e2) (by omega) (by omega) ⟨h4, h4'⟩ fun j hj => HN.out j (by omega))
      go_wp2
      go_ret
      exact ⟨ret_bool (by rw [HI.out]), bdn hb0 _⟩
end Go.Proofs.Ytfabpkcgdblnbaa
