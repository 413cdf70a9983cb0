/-
  slices.Equal, plain, Plain, Equal, of the program and of the reference: what each returns. Conditions: stated at each.
-/
import Derived.Test.YtfabpkcgdblnbaaV2
namespace Go.Proofs.Ytfabpkcgdblnbaa
set_option linter.unusedVariables false
set_option linter.unusedSimpArgs false
open Go.RowKit

def eqB (n : Nat) (f : Nat → Bool) (m : Nat) (g : Nat → Bool) : Bool := decide (n = m) && !anyB n (fun i => f i != g i)
theorem eqB_len {n m : Nat} {f g : Nat → Bool} (h : n ≠ m) : eqB n f m g = false := by simp [eqB, h]
theorem eqB_bad {n i : Nat} {f g : Nat → Bool} (hi : i < n) (h : f i ≠ g i) : eqB n f n g = false := by
  unfold eqB; rw [anyB_true.2 ⟨i, hi, by simpa using h⟩]; simp
theorem eqB_ok {n : Nat} {f g : Nat → Bool} (h : ∀ i, i < n → f i = g i) : eqB n f n g = true := by
  unfold eqB; rw [anyB_false.2 fun i hi => by simpa using h i hi]; simp
/-- slices.Equal -/
theorem eq_any (b1 o1 n1 c1 b2 o2 n2 c2 : Nat) (f g : Nat → Bool) (w : World) (h1 : BoolsAt w b1 o1 n1 f) (h2 : BoolsAt w b2 o2 n2 g) (hn : n1 ≤ 1000000) (hm : n2 ≤ 1000000) :
    Calls Try.prog 76 #[.slice (some ⟨b1, o1, none⟩) n1 c1, .slice (some ⟨b2, o2, none⟩) n2 c2] w fun e w' => e = .returned (.bool (eqB n1 f n2 g)) ∧ ∃ m, w' = w.drewN m := by
  by_cases hl : n1 = n2
  · subst hl
    go_enter Try.func76, Try.ntmps76
    go_wp2_with fail
    go_loopw [13] (fun i wr => ∃ k : Nat, k ≤ n1 ∧ i = .int .i64 k ∧ Hid (∀ j, j < k → f j = g j) ∧ ∃ m, wr = w.drewN m) (fun i _ => n1 - (intOf i).toNat)
    case atStart => exact ⟨0, by omega, rfl, hid (by omega), 0, rfl⟩
    case round =>
      obtain ⟨k, hk, rfl, HN, m, rfl⟩ := hrel
      by_cases hlt : k < n1
      · have hc1 := h1.2 k hlt
        have hc2 := h2.2 k hlt
        generalize hx : f k = x at hc1
        generalize hy : g k = y at hc2
        have HX := hid hx
        have HY := hid hy
        clear hx hy
        cases x <;> cases y
        · have HE := hid (show f k = g k by rw [HX.out, HY.out])
          go_wp2
          go_quiet (fail)
          go_wp2
          go_roundw
          case rel => exact ⟨k + 1, by omega, by go_num, hid (fun j hj => by (by_cases e : j = k; (subst e; exact HE.out); exact HN.out j (by omega))), m + nq, by simp⟩
          case measure => simp [intOf]; omega
        · have HE := hid (eqB_bad hlt (show f k ≠ g k by rw [HX.out, HY.out]; simp))
          go_wp2
          go_quiet (fail)
          go_wp2
          go_ret
          exact ⟨ret_bool (by rw [HE.out]), m + nq, by simp⟩
        · have HE := hid (eqB_bad hlt (show f k ≠ g k by rw [HX.out, HY.out]; simp))
          go_wp2
          go_quiet (fail)
          go_wp2
          go_ret
          exact ⟨ret_bool (by rw [HE.out]), m + nq, by simp⟩
        · have HE := hid (show f k = g k by rw [HX.out, HY.out])
          go_wp2
          go_quiet (fail)
          go_wp2
          go_roundw
          case rel => exact ⟨k + 1, by omega, by go_num, hid (fun j hj => by (by_cases e : j = k; (subst e; exact HE.out); exact HN.out j (by omega))), m + nq, by simp⟩
          case measure => simp [intOf]; omega
      · have HE := hid (eqB_ok (n := n1) fun i hi => HN.out i (by omega))
        go_wp2
        go_ret
        exact ⟨ret_bool (by rw [HE.out]), m, rfl⟩
  · have hb : ((n1 : Int) != (n2 : Int)) = true := by simp; omega
    have HE := hid (eqB_len (f := f) (g := g) hl)
    clear hl
    go_enter Try.func76, Try.ntmps76
    go_wp2
    go_ret
    exact ⟨ret_bool (by rw [HE.out]), 0, rfl⟩

/-! ### the least period -/
def perB (p : Nat) (f : Nat → Bool) (q : Nat) : Bool := !anyB p (fun h => f h != f (h % q))
theorem perB_true {p q : Nat} {f : Nat → Bool} : perB p f q = true ↔ ∀ h, h < p → f h = f (h % q) := by
  unfold perB; rw [Bool.not_eq_true', anyB_false]; simp
theorem per_iff {p q : Nat} {f : Nat → Bool} (hq : 0 < q) (hqp : q ≤ p) : eqB (p - q) (fun i => f (q + i)) (p - q) f = perB p f q := by
  rw [Bool.eq_iff_iff, perB_true]
  unfold eqB
  simp only [decide_true, Bool.true_and, Bool.not_eq_true', anyB_false, bne_eq_false_iff_eq]
  constructor
  · intro h x
    induction x using Nat.strongRecOn with
    | _ x ih =>
      intro hx
      by_cases hlt : x < q
      · rw [Nat.mod_eq_of_lt hlt]
      · have h1 := h (x - q) (by omega)
        rw [show q + (x - q) = x from by omega] at h1
        rw [h1, ih (x - q) (by omega) (by omega)]
        congr 1
        rw [Nat.mod_eq_sub_mod (show q ≤ x by omega)]
  · intro h i hi
    rw [h (q + i) (by omega), h i (by omega), Nat.add_mod_left]
def isPer (p : Nat) (f : Nat → Bool) (q : Nat) : Bool := decide (0 < q) && decide (p % q = 0) && perB p f q
def plainP (p : Nat) (f : Nat → Bool) : Nat := ((List.range p).find? (isPer p f)).getD p
theorem plainP_some {p q : Nat} {f : Nat → Bool} (hq : q < p) (h : isPer p f q = true) (hno : ∀ j, j < q → isPer p f j = false) : plainP p f = q := by
  unfold plainP
  have : (List.range p).find? (isPer p f) = some q := by
    rw [List.find?_range_eq_some]
    exact ⟨h, by simpa using hq, fun j hj => by simpa using hno j hj⟩
  rw [this]; rfl
theorem plainP_none {p : Nat} {f : Nat → Bool} (hno : ∀ j, j < p → isPer p f j = false) : plainP p f = p := by
  unfold plainP
  rw [List.find?_eq_none.2 (by simpa using hno)]; rfl
theorem isPer_zero (p : Nat) (f : Nat → Bool) : isPer p f 0 = false := by simp [isPer]

theorem BoolsAt.from_ {w : World} {b p : Nat} {f : Nat → Bool} (h : BoolsAt w b 0 p f) (q : Nat) (hq : q ≤ p) : BoolsAt w b q (p - q) (fun i => f (q + i)) :=
  ⟨h.1, fun i hi => by have := h.2 (q + i) (by omega); rwa [Nat.zero_add] at this⟩
theorem BoolsAt.upto_ {w : World} {b p : Nat} {f : Nat → Bool} (h : BoolsAt w b 0 p f) (q : Nat) (hq : q ≤ p) : BoolsAt w b 0 q f :=
  ⟨h.1, fun i hi => h.2 i (by omega)⟩
set_option maxHeartbeats 1000000 in
/-- (open).plain -/
theorem plain_any (b p : Nat) (f : Nat → Bool) (w : World) (hb : BoolsAt w b 0 p f) (hp : 1 ≤ p) (hp2 : p ≤ 1000000) :
    Calls Try.prog 77 #[.slice (some ⟨b, 0, none⟩) p p] w fun e w' => e = .returned (.slice (some ⟨b, 0, none⟩) (plainP p f) p) ∧ ∃ m, w' = w.drewN m := by
  have HB := hid hb
  clear hb
  go_enter Try.func77, Try.ntmps77
  go_wp2_with fail
  go_loopw [3] (fun i wr => ∃ q : Nat, 1 ≤ q ∧ q ≤ p ∧ i = .int .i64 q ∧ Hid (∀ j, j < q → isPer p f j = false) ∧ ∃ m, wr = w.drewN m) (fun i _ => p - (intOf i).toNat)
  case atStart => exact ⟨1, by omega, by omega, rfl, hid (fun j hj => by (obtain rfl : j = 0 := by omega); exact isPer_zero p f), 0, rfl⟩
  case round =>
    obtain ⟨q, hq1, hq, rfl, HN, m, hwr⟩ := hrel
    have HBr : Hid (BoolsAt wr b 0 p f) := by rw [hwr]; exact HB.out
    have HWR := hid hwr
    clear hwr
    by_cases hlt : q < p
    · have hne : ((q : Int) == 0) = false := beq_eq_false_iff_ne.2 (by omega)
      have hq0 : ¬ q = 0 := by omega
      have hqp : ¬ p = q := by omega
      by_cases hmod : p % q = 0
      · have hm0 : (p : Int) % (q : Int) = 0 := by have : ((p % q : Nat) : Int) = 0 := by rw [hmod]; rfl
                                                   rwa [Int.natCast_emod] at this
        have hE := per_iff (f := f) (show 0 < q by omega) hq
        have HQ := hid fun (t : Bool) (ht : perB p f q = t) (n : Nat) => Calls.quiet_of (v := .bool t) (n := n) ((ht ▸ hE ▸ eq_any b q (p - q) (p - q) b 0 (p - q) p (fun i => f (q + i)) f (wr.drewN n) (HBr.out.from_ q hq) (HBr.out.upto_ (p - q) (by omega)) (by omega) (by omega)))
        cases hpb : perB p f q
        · have HP := hid (show isPer p f q = false by simp [isPer, hpb])
          have HQ2 := hid (HQ.out false hpb)
          clear hpb hE hmod
          go_wp2_with fail
          go_quiet ((go_at_call 76; exact HQ2.out _))
          go_wp2
          go_roundw
          case rel => exact ⟨q + 1, by omega, by omega, by go_num, hid (fun j hj => by (by_cases e : j = q; (subst e; exact HP.out); exact HN.out j (by omega))), m + nq, by rw [HWR.out]; simp⟩
          case measure => simp [intOf]; omega
        · have HP := hid (plainP_some hlt (show isPer p f q = true by simp [isPer, hpb, hmod]; omega) HN.out)
          have HQ2 := hid (HQ.out true hpb)
          clear hpb hE hmod
          go_wp2_with fail
          go_quiet ((go_at_call 76; exact HQ2.out _))
          go_wp2
          go_ret
          exact ⟨by rw [HP.out]; rfl, m + nq, by rw [HWR.out]; simp⟩
      · have HP := hid (show isPer p f q = false by simp [isPer, hmod])
        have hm0 : ((p : Int) % (q : Int) == 0) = false := beq_eq_false_iff_ne.2 (by intro h; apply hmod; omega)
        clear hmod
        go_wp2_with fail
        go_quiet (fail)
        go_wp2
        go_roundw
        case rel => exact ⟨q + 1, by omega, by omega, by go_num, hid (fun j hj => by (by_cases e : j = q; (subst e; exact HP.out); exact HN.out j (by omega))), m + nq, by rw [HWR.out]; simp⟩
        case measure => simp [intOf]; omega
    · obtain rfl : q = p := by omega
      have HP := hid (plainP_none HN.out)
      go_wp2
      go_ret
      exact ⟨by rw [HP.out]; rfl, m, HWR.out⟩
end Go.Proofs.Ytfabpkcgdblnbaa
