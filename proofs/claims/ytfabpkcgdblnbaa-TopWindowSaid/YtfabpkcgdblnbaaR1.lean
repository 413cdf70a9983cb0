/-
  The program's functions on rounds (package window): what each returns, by its contract. Conditions: stated at each.
-/
import Derived.Test.YtfabpkcgdblnbaaMathR
namespace Go.Proofs.Ytfabpkcgdblnbaa
set_option linter.unusedVariables false
set_option linter.unusedSimpArgs false
open Go.RowKit

/-- rounds in memory: n of them, two cells each -/
def RoundsAt (w : World) (A : Option Addr) (n : Nat) (ra re : Nat → Int) : Prop :=
  n ≤ 9223372036854775807 ∧ ∃ b off, (0 < n → b < w.heap.size) ∧ (0 < n → A = some ⟨b, off, none⟩) ∧ ∀ i, i < n → w.cell? ⟨b, off + i * 2, none⟩ = some (.int .i64 (ra i)) ∧ w.cell? ⟨b, off + i * 2 + 1, none⟩ = some (.int .i64 (re i))
theorem RoundsAt.below {w w' : World} {A : Option Addr} {n : Nat} {ra re : Nat → Int} (h : RoundsAt w A n ra re) (hb : Below w.heap.size w w') : RoundsAt w' A n ra re := by
  obtain ⟨hn, b, off, hlt, hA, hc⟩ := h
  exact ⟨hn, b, off, fun h => Nat.lt_of_lt_of_le (hlt h) hb.size, hA, fun i hi => ⟨(hb.cell (p := ⟨b, off + i * 2, none⟩) (hlt (by omega))).trans (hc i hi).1, (hb.cell (p := ⟨b, off + i * 2 + 1, none⟩) (hlt (by omega))).trans (hc i hi).2⟩⟩
theorem RoundsAt.drewN {w : World} {A : Option Addr} {n : Nat} {ra re : Nat → Int} (h : RoundsAt w A n ra re) (m : Nat) : RoundsAt (w.drewN m) A n ra re := h

def badR (a e : Int) : Bool := !btw 1 e 1000 || !btw 0 a (e - 1)
theorem badR_false {a e : Int} : badR a e = false ↔ 1 ≤ e ∧ e ≤ 1000 ∧ 0 ≤ a ∧ a < e := by
  simp only [badR, Bool.or_eq_false_iff, Bool.not_eq_false', btw_iff]; omega
/-- newRounds' test on one round -/
theorem badr_any (a e : Int) (w : World) :
    Calls Try.prog 97 #[.agg #[.int .i64 a, .int .i64 e]] w fun r w' => r = .returned (.bool (badR a e)) ∧ Below w.heap.size w w' := by
  by_cases h : 1 ≤ e ∧ e ≤ 1000
  · obtain ⟨h1, h2⟩ := h
    have hb := btw_true h1 h2
    go_enter Try.func97, Try.ntmps97
    go_wp2_with (go_at_call 68; refine (between_any _ _ _ _).mono ?_; rintro e w' ⟨rfl, rfl⟩)
    go_ret
    exact ⟨ret_bool (by simp [badR, hb]), (Below.refl _ _).alloc (Nat.le_refl _) _⟩
  · have hb : btw 1 e 1000 = false := btw_false (by omega)
    go_enter Try.func97, Try.ntmps97
    go_wp2_with (go_at_call 68; refine (between_any _ _ _ _).mono ?_; rintro e w' ⟨rfl, rfl⟩)
    go_ret
    exact ⟨ret_bool (by simp [badR, hb]), (Below.refl _ _).alloc (Nat.le_refl _) _⟩

def anyBad (ra re : Nat → Int) (n : Nat) : Bool := anyB n (fun i => badR (ra i) (re i))
/-- slices.IndexFunc over rounds, by newRounds' test -/
theorem idxf_bad (A : Option Addr) (n c : Nat) (ra re : Nat → Int) (w : World) (h : RoundsAt w A n ra re) :
    Calls Try.prog 105 #[.slice A n c, .func (.func 97) #[] #[]] w fun e w' => e = .returned (.int .i64 (idxB n (fun i => badR (ra i) (re i)))) ∧ Below w.heap.size w w' := by
  obtain ⟨hn, b, off, hb, hA, hc⟩ := h
  go_enter Try.func105, Try.ntmps105
  go_wp2_with fail
  go_loopw [8] (fun i wr => ∃ k : Nat, k ≤ n ∧ i = .int .i64 k ∧ (∀ j, j < k → badR (ra j) (re j) = false) ∧ Below w.heap.size w wr) (fun i _ => n - (intOf i).toNat)
  case atStart => exact ⟨0, by omega, rfl, by omega, Below.refl _ _⟩
  case round =>
    obtain ⟨k, hk, rfl, hno, hB⟩ := hrel
    have HN := hid hno
    clear hno
    by_cases hlt : k < n
    · obtain rfl := hA (by omega)
      have hc1 := (hB.cell (p := ⟨b, off + k * 2, none⟩) (hb (by omega))).trans (hc k hlt).1
      have hc2 := (hB.cell (p := ⟨b, off + k * 2 + 1, none⟩) (hb (by omega))).trans (hc k hlt).2
      clear hc
      cases hbad : badR (ra k) (re k)
      · have HB := hid hbad
        go_wp2_with (go_at_call 97; refine (badr_any _ _ _).mono ?_; rintro e w' ⟨rfl, hb1⟩)
        go_roundw
        case rel => exact ⟨k + 1, by omega, by go_num, fun j hj => by (by_cases e : j = k; (subst e; exact HB.out); exact HN.out j (by omega)), btr hB hb1 hB.size⟩
        case measure => simp [intOf]; omega
      · have HB := hid hbad
        go_wp2_with (go_at_call 97; refine (badr_any _ _ _).mono ?_; rintro e w' ⟨rfl, hb1⟩)
        go_ret
        exact ⟨ret_int (by rw [idxB_some hlt HB.out HN.out]), btr hB hb1 hB.size⟩
    · go_wp2
      go_ret
      exact ⟨ret_int (by rw [idxB_none fun j hj => HN.out j (by omega)]), hB⟩
/-- slices.ContainsFunc over rounds, by newRounds' test -/
theorem has_bad (A : Option Addr) (n c : Nat) (ra re : Nat → Int) (w : World) (h : RoundsAt w A n ra re) :
    Calls Try.prog 96 #[.slice A n c, .func (.func 97) #[] #[]] w fun e w' => e = .returned (.bool (anyBad ra re n)) ∧ Below w.heap.size w w' := by
  go_enter Try.func96, Try.ntmps96
  go_wp2_with (go_at_call 105; refine (idxf_bad _ _ _ _ _ _ h).mono ?_; rintro e w' ⟨rfl, hb1⟩)
  go_ret
  exact ⟨ret_bool idxB_any, hb1⟩

def OkR (ra re : Nat → Int) (n : Nat) : Prop := (1 ≤ n ∧ n ≤ 6) ∧ Valids ra re n
theorem valids_of {ra re : Nat → Int} {n : Nat} (h : anyBad ra re n = false) : Valids ra re n := fun i hi => badR_false.1 (anyB_false.1 h i hi)
theorem anyBad_of {ra re : Nat → Int} {n : Nat} (h : Valids ra re n) : anyBad ra re n = false := anyB_false.2 fun i hi => badR_false.2 (h i hi)
/-- newRounds, where the rounds are valid -/
theorem newR_yes (A : Option Addr) (n c : Nat) (ra re : Nat → Int) (w : World) (h : RoundsAt w A n ra re) (hok : OkR ra re n) :
    Calls Try.prog 63 #[.slice A n c] w fun e w' => e = .returned (.tuple #[.slice A n c, .int .i64 0]) ∧ Below w.heap.size w w' := by
  obtain ⟨⟨h1, h2⟩, hv⟩ := hok
  have hb : btw 1 (n : Int) 6 = true := btw_true (by omega) (by omega)
  have ha := anyBad_of hv
  clear hv
  go_enter Try.func63, Try.ntmps63
  go_wp2_with (first | (go_at_call 68; refine (between_any _ _ _ _).mono ?_; rintro e w' ⟨rfl, rfl⟩) | (go_at_call 96; refine (has_bad _ _ _ _ _ _ h).mono ?_; rintro e w' ⟨rfl, hb1⟩))
  go_ret2
  exact ⟨rfl, hb1⟩
/-- newRounds, where they are not -/
theorem newR_no (A : Option Addr) (n c : Nat) (ra re : Nat → Int) (w : World) (h : RoundsAt w A n ra re) (hok : ¬ OkR ra re n) :
    Calls Try.prog 63 #[.slice A n c] w fun e w' => e = .returned (.tuple #[.slice none 0 0, .int .i64 51]) ∧ Below w.heap.size w w' := by
  by_cases h1 : 1 ≤ n ∧ n ≤ 6
  · have ha : anyBad ra re n = true := by
      cases e : anyBad ra re n
      · exact absurd ⟨h1, valids_of e⟩ hok
      · rfl
    have hb : btw 1 (n : Int) 6 = true := btw_true (by omega) (by omega)
    clear hok
    go_enter Try.func63, Try.ntmps63
    go_wp2_with (first | (go_at_call 68; refine (between_any _ _ _ _).mono ?_; rintro e w' ⟨rfl, rfl⟩) | (go_at_call 96; refine (has_bad _ _ _ _ _ _ h).mono ?_; rintro e w' ⟨rfl, hb1⟩))
    go_ret2
    exact ⟨rfl, hb1⟩
  · have hb : btw 1 (n : Int) 6 = false := btw_false (by omega)
    clear hok
    go_enter Try.func63, Try.ntmps63
    go_wp2_with (go_at_call 68; refine (between_any _ _ _ _).mono ?_; rintro e w' ⟨rfl, rfl⟩)
    go_ret2
    exact ⟨rfl, Below.refl _ _⟩

/-- (rounds).never -/
theorem never_any (A : Option Addr) (n c i k : Nat) (ra re : Nat → Int) (w : World) (h : RoundsAt w A n ra re) (hv : Valids ra re n) (hi : i < n) (hk : k < n) :
    Calls Try.prog 69 #[.slice A n c, .int .i64 i, .int .i64 k] w fun e w' => e = .returned (.bool (nev ra re i k)) ∧ ∃ m, w' = w.drewN m := by
  obtain ⟨hn, b, off, hb, hA, hc⟩ := h
  obtain rfl := hA (by omega)
  obtain ⟨c1, c2⟩ := hc i hi
  obtain ⟨c3, c4⟩ := hc k hk
  obtain ⟨v1, v2, v3, v4⟩ := hv i hi
  obtain ⟨u1, u2, u3, u4⟩ := hv k hk
  have hg := gcd_pos (re i) (re k) (by omega)
  have hg2 := gcd_le (re i) (re k) (by omega)
  have hz : ((Int.gcd (re i) (re k) : Int) == 0) = false := by simp; omega
  clear hc hv hA
  go_enter Try.func69, Try.ntmps69
  go_wp2
  go_quiet ((go_at_call 87; refine Calls.quiet_of (divisor_any _ _ _ (by omega) (by omega) (by omega) (by omega))))
  go_wp2
  go_ret
  exact ⟨rfl, nq, rfl⟩

/-- (rounds).pair -/
theorem pair_any (A : Option Addr) (n c : Nat) (ra re : Nat → Int) (w : World) (h : RoundsAt w A n ra re) (hv : Valids ra re n) :
    Calls Try.prog 64 #[.slice A n c] w fun e w' => e = .returned (.tuple #[.int .i64 (pairOf (nev ra re) n).1, .int .i64 (pairOf (nev ra re) n).2.1, .bool (pairOf (nev ra re) n).2.2]) ∧ ∃ m, w' = w.drewN m := by
  have HV := hid hv
  clear hv
  have hn := h.1
  have HH := hid h
  clear h
  go_enter Try.func64, Try.ntmps64
  go_wp2_with fail
  go_loopw [9] (fun x wr => ∃ i : Nat, i ≤ n ∧ x = .int .i64 i ∧ Hid (∀ x y, x < i → x < y → y < n → nev ra re x y = false) ∧ ∃ m, wr = w.drewN m) (fun x _ => n - (intOf x).toNat)
  case atStart => exact ⟨0, by omega, rfl, hid (fun x y hx => by omega), 0, rfl⟩
  case round =>
    obtain ⟨i, hi, rfl, hno, m, rfl⟩ := hrel
    by_cases hlt : i < n
    · go_wp2_with fail
      go_loopw [6] (fun y wr => ∃ k : Nat, i < k ∧ k ≤ n ∧ y = .int .i64 k ∧ Hid (∀ y, i < y → y < k → nev ra re i y = false) ∧ ∃ m, wr = w.drewN m) (fun y _ => n - (intOf y).toNat)
      case atStart => exact ⟨i + 1, by omega, by omega, by go_num, hid (fun y hy => by omega), m, rfl⟩
      case round =>
        obtain ⟨k, hik, hk, rfl, hno2, m2, rfl⟩ := hrel
        by_cases hlt2 : k < n
        · cases hnv : nev ra re i k
          · have HB := hid hnv
            go_wp2_with (go_at_call 69; refine (never_any _ _ _ _ _ _ _ _ (HH.out.drewN _) HV.out (by omega) (by omega)).mono ?_; rintro e w' ⟨rfl, m3, rfl⟩)
            go_roundw
            case rel => exact ⟨k + 1, by omega, by omega, by go_num, hid (fun y h1 h2 => by (by_cases e : y = k; (subst e; exact HB.out); exact hno2.out y h1 (by omega))), m2 + m3, by simp⟩
            case measure => simp [intOf]; omega
          · have HB := hid hnv
            go_wp2_with (go_at_call 69; refine (never_any _ _ _ _ _ _ _ _ (HH.out.drewN _) HV.out (by omega) (by omega)).mono ?_; rintro e w' ⟨rfl, m3, rfl⟩)
            go_ret3
            exact ⟨by rw [pairOf_some hik hlt2 HB.out hno.out hno2.out]; rfl, m2 + m3, by simp⟩
        · go_wp2_with fail
          go_roundw
          case rel => exact ⟨i + 1, by omega, by go_num, hid (fun x y h1 h2 h3 => by (by_cases e : x = i; (subst e; exact hno2.out y h2 (by omega)); exact hno.out x y (by omega) h2 h3)), m2, rfl⟩
          case measure => simp [intOf]; omega
    · go_wp2
      go_ret3
      exact ⟨by rw [pairOf_none fun x y h1 h2 => hno.out x y (by omega) h1 h2]; rfl, m, rfl⟩
end Go.Proofs.Ytfabpkcgdblnbaa
