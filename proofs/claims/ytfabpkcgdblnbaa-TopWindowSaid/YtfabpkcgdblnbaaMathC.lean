/-
  Counting laws: how many hours below a number are open. Conditions: none.
-/
import Derived.Test.YtfabpkcgdblnbaaMathP
import Derived.Test.YtfabpkcgdblnbaaMathR
namespace Go.Proofs.Ytfabpkcgdblnbaa
set_option linter.unusedVariables false
set_option linter.unusedSimpArgs false
open Go.RowKit

def cnt (n : Nat) (f : Nat → Bool) : Nat := (List.range n).countP f
theorem hsL_cnt (f : Nat → Bool) (p : Nat) : (hsL f p).length = cnt p f := by unfold hsL cnt; rw [List.countP_eq_length_filter]
theorem cnt_zero (f : Nat → Bool) : cnt 0 f = 0 := rfl
theorem cnt_succ (n : Nat) (f : Nat → Bool) : cnt (n + 1) f = cnt n f + (if f n then 1 else 0) := by
  unfold cnt; rw [List.range_succ, List.countP_append]; simp [List.countP_cons]
theorem cnt_le (n : Nat) (f : Nat → Bool) : cnt n f ≤ n := by rw [← hsL_cnt]; exact hsL_len f n
theorem cnt_congr {n : Nat} {f g : Nat → Bool} (h : ∀ i, i < n → f i = g i) : cnt n f = cnt n g := by
  rw [← hsL_cnt, ← hsL_cnt, hsL_congr h]
theorem cnt_add (a b : Nat) (f : Nat → Bool) : cnt (a + b) f = cnt a f + cnt b (fun i => f (a + i)) := by
  induction b with
  | zero => simp [cnt_zero]
  | succ b ih => rw [← Nat.add_assoc, cnt_succ, cnt_succ, ih]; omega
theorem cnt_not (n : Nat) (f : Nat → Bool) : cnt n (fun j => !f j) + cnt n f = n := by
  induction n with
  | zero => simp [cnt_zero]
  | succ n ih => rw [cnt_succ, cnt_succ]; cases f n <;> simp <;> omega
theorem cnt_both (n : Nat) (f g : Nat → Bool) : cnt n (fun j => and (f j) (g j)) + cnt n (fun j => or (f j) (g j)) = cnt n f + cnt n g := by
  induction n with
  | zero => simp [cnt_zero]
  | succ n ih => rw [cnt_succ, cnt_succ, cnt_succ, cnt_succ]; cases f n <;> cases g n <;> simp <;> omega
theorem cnt_mul (p t : Nat) (f : Nat → Bool) : cnt (p * t) (fun j => f (j % p)) = t * cnt p f := by
  induction t with
  | zero => simp [cnt_zero]
  | succ t ih =>
    rw [Nat.mul_succ, cnt_add, ih, Nat.succ_mul]
    congr 1
    exact cnt_congr fun i hi => by rw [Nat.mul_add_mod, Nat.mod_eq_of_lt hi]
theorem cnt_const (n : Nat) (b : Bool) (g : Nat → Bool) : cnt n (fun j => and b (g j)) = (if b then 1 else 0) * cnt n g := by
  cases b
  · simp [cnt]
  · simp [cnt]
theorem cnt_grid (p q : Nat) (hq : 0 < q) (f g : Nat → Bool) : cnt (q * p) (fun t => and (f (t / q)) (g (t % q))) = cnt p f * cnt q g := by
  induction p with
  | zero => simp [cnt_zero]
  | succ p ih =>
    rw [Nat.mul_succ, cnt_add, ih, cnt_succ, Nat.add_mul, ← cnt_const]
    congr 1
    exact cnt_congr fun i hi => by rw [Nat.mul_add_div hq, Nat.div_eq_of_lt hi, Nat.add_zero, Nat.mul_add_mod, Nat.mod_eq_of_lt hi]
theorem crtN (p q i s : Nat) (hp : 0 < p) (hq : 0 < q) (hg : Nat.gcd p q = 1) (hi : i < p) (hs : s < q) : ∃ j, j < p * q ∧ j % p = i ∧ j % q = s := by
  obtain ⟨t, h1, h2, h3⟩ := crt2 i p s q (by omega) (by omega) ⟨by omega, by omega⟩ (by rw [show Int.gcd (p : Int) (q : Int) = Nat.gcd p q from rfl, hg]; exact Int.one_dvd _)
  obtain ⟨t, rfl⟩ := Int.eq_ofNat_of_zero_le h1
  refine ⟨i + t * p, ?_, ?_, ?_⟩
  · have : t + 1 ≤ q := by omega
    have := Nat.mul_le_mul_right p this
    rw [Nat.add_mul, Nat.one_mul] at this
    rw [Nat.mul_comm p q]; omega
  · rw [Nat.add_mul_mod_self_right, Nat.mod_eq_of_lt hi]
  · apply Int.ofNat_inj.1
    rw [Int.natCast_emod, Int.natCast_add, Int.natCast_mul]; exact h3
theorem crtU (p q j k : Nat) (hg : Nat.gcd p q = 1) (hj : j < p * q) (hk : k < p * q) (h1 : j % p = k % p) (h2 : j % q = k % q) : j = k := by
  have key : ∀ a b : Nat, a ≤ b → b < p * q → a % p = b % p → a % q = b % q → a = b := by
    intro a b hab hb e1 e2
    have d1 : p ∣ b - a := Nat.dvd_of_mod_eq_zero (Nat.sub_mod_eq_zero_of_mod_eq e1.symm)
    have d2 : q ∣ b - a := Nat.dvd_of_mod_eq_zero (Nat.sub_mod_eq_zero_of_mod_eq e2.symm)
    have d3 : p * q ∣ b - a := Nat.Coprime.mul_dvd_of_dvd_of_dvd hg d1 d2
    rcases Nat.eq_zero_or_pos (b - a) with h0 | h0
    · omega
    · have := Nat.le_of_dvd h0 d3; omega
  rcases Nat.le_total j k with h | h
  · exact key j k h hk h1 h2
  · exact (key k j h hj h1.symm h2.symm).symm
theorem cnt_pair (p q : Nat) (hp : 0 < p) (hq : 0 < q) (hg : Nat.gcd p q = 1) (f g : Nat → Bool) : cnt (p * q) (fun j => and (f (j % p)) (g (j % q))) = cnt p f * cnt q g := by
  rw [← cnt_grid p q hq f g, Nat.mul_comm q p]
  have e1 : cnt (p * q) (fun j => and (f (j % p)) (g (j % q))) = ((List.range (p * q)).map fun j => (j % p, j % q)).countP fun x => and (f x.1) (g x.2) := by
    rw [List.countP_map]; rfl
  have e2 : cnt (p * q) (fun t => and (f (t / q)) (g (t % q))) = ((List.range (p * q)).map fun t => (t / q, t % q)).countP fun x => and (f x.1) (g x.2) := by
    rw [List.countP_map]; rfl
  rw [e1, e2]
  refine List.Perm.countP_eq _ ?_
  have n1 : ((List.range (p * q)).map fun j => (j % p, j % q)).Nodup := by
    rw [List.nodup_iff_pairwise_ne, List.pairwise_map]
    refine List.Pairwise.imp_of_mem ?_ List.pairwise_lt_range
    intro a b ha hb hab e
    have ha := List.mem_range.1 ha
    have hb := List.mem_range.1 hb
    injection e with x1 x2
    exact absurd (crtU p q a b hg ha hb x1 x2) (by omega)
  have n2 : ((List.range (p * q)).map fun t => (t / q, t % q)).Nodup := by
    rw [List.nodup_iff_pairwise_ne, List.pairwise_map]
    refine List.Pairwise.imp_of_mem ?_ List.pairwise_lt_range
    intro a b ha hb hab e
    injection e with x1 x2
    have h1 := Nat.div_add_mod a q
    have h2 := Nat.div_add_mod b q
    rw [x1, x2] at h1
    omega
  refine (List.perm_ext_iff_of_nodup n1 n2).2 fun ⟨i, s⟩ => ?_
  simp only [List.mem_map, List.mem_range, Prod.mk.injEq]
  constructor
  · rintro ⟨j, hj, rfl, rfl⟩
    have l1 := Nat.mod_lt j hp
    have l2 := Nat.mod_lt j hq
    refine ⟨q * (j % p) + j % q, ?_, ?_, ?_⟩
    · have := Nat.mul_le_mul_left q (show j % p + 1 ≤ p by omega)
      rw [Nat.mul_add, Nat.mul_one] at this
      rw [Nat.mul_comm p q]; omega
    · rw [Nat.mul_add_div hq, Nat.div_eq_of_lt l2, Nat.add_zero]
    · rw [Nat.mul_add_mod, Nat.mod_eq_of_lt l2]
  · rintro ⟨t, ht, rfl, rfl⟩
    have l1 : t / q < p := Nat.div_lt_of_lt_mul (by rw [Nat.mul_comm]; exact ht)
    exact crtN p q _ _ hp hq hg l1 (Nat.mod_lt _ hq)
end Go.Proofs.Ytfabpkcgdblnbaa
