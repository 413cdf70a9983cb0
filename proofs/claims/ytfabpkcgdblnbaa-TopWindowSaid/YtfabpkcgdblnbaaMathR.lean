/-
  Plain arithmetic on rounds (at modulo every): when two meet, when several do. No program in sight. Conditions: none.
-/
import Derived.Test.YtfabpkcgdblnbaaBase
namespace Go.Proofs.Ytfabpkcgdblnbaa
set_option linter.unusedVariables false
set_option linter.unusedSimpArgs false

theorem bez (a b : Nat) : ∃ u v : Int, (a : Int) * u + b * v = Nat.gcd a b := by
  induction a, b using Nat.gcd.induction with
  | H0 n => exact ⟨0, 1, by simp⟩
  | H1 m n hm ih =>
    obtain ⟨u, v, h⟩ := ih
    refine ⟨v - (n / m : Nat) * u, u, ?_⟩
    rw [Nat.gcd_rec, ← h]
    have : ((n % m : Nat) : Int) = n - m * (n / m : Nat) := by
      have := Nat.mod_add_div n m
      omega
    rw [this, Int.mul_sub, Int.sub_mul, Int.mul_assoc]; omega
theorem bezI (a b : Int) (ha : 0 ≤ a) (hb : 0 ≤ b) : ∃ u v : Int, a * u + b * v = Int.gcd a b := by
  obtain ⟨m, rfl⟩ := Int.eq_ofNat_of_zero_le ha
  obtain ⟨n, rfl⟩ := Int.eq_ofNat_of_zero_le hb
  exact bez m n
/-- two rounds: an hour of the one is in the other one -/
theorem crt2 (x m r e : Int) (hm : 0 < m) (he : 0 < e) (hr : 0 ≤ r ∧ r < e) (hd : (Int.gcd m e : Int) ∣ (x - r)) : ∃ j : Int, 0 ≤ j ∧ j < e ∧ (x + j * m) % e = r := by
  obtain ⟨u, v, huv⟩ := bezI m e (by omega) (by omega)
  obtain ⟨t, ht⟩ := hd
  refine ⟨(-(t * u)) % e, Int.emod_nonneg _ (by omega), Int.emod_lt_of_pos _ he, ?_⟩
  have h1 : (x + (-(t * u)) % e * m) % e = (x + (-(t * u)) * m) % e := by
    rw [Int.add_emod, Int.mul_emod, Int.emod_emod, ← Int.mul_emod, ← Int.add_emod]
  rw [h1]
  have h2 : x + (-(t * u)) * m = r + e * (t * v) := by
    have : t * (m * u + e * v) = x - r := by rw [huv, Int.mul_comm]; exact ht.symm
    have e1 : t * (m * u + e * v) = t * u * m + e * (t * v) := by
      rw [Int.mul_add, ← Int.mul_assoc, Int.mul_right_comm, ← Int.mul_assoc, ← Int.mul_assoc, Int.mul_comm e t]
    rw [Int.neg_mul]; omega
  rw [h2, Int.add_mul_emod_self_left, Int.emod_eq_of_lt hr.1 hr.2]
/-- and if there is one, what divides both lengths divides how far they are apart -/
theorem crt2_conv (x j m r e : Int) (h : (x + j * m) % e = r) : (Int.gcd m e : Int) ∣ (x - r) := by
  have h1 : (Int.gcd m e : Int) ∣ e := Int.gcd_dvd_right ..
  have h2 : (Int.gcd m e : Int) ∣ m := Int.gcd_dvd_left ..
  have h3 : e ∣ (x + j * m - r) := by rw [← h]; exact Int.dvd_self_sub_emod
  have h4 : (Int.gcd m e : Int) ∣ (x + j * m - r) := Int.dvd_trans h1 h3
  have h5 : (Int.gcd m e : Int) ∣ j * m := Int.dvd_trans h2 (Int.dvd_mul_left j m)
  have := Int.dvd_sub h4 h5
  rw [show x + j * m - r - j * m = x - r from by omega] at this
  exact this

/-- the least common multiple: what it is good for -/
theorem lcmI_nat (a b : Nat) : lcmI a b = (Nat.lcm a b : Nat) := by
  unfold lcmI
  show ((a : Int) / (Nat.gcd a b : Nat)) * (b : Int) = _
  rw [← Int.natCast_ediv, ← Int.natCast_mul]
  congr 1
  rw [Nat.lcm, Nat.div_mul_right_comm (Nat.gcd_dvd_left a b)]
theorem lcmI_left (a b : Int) (ha : 0 < a) (hb : 0 < b) : a ∣ lcmI a b := by
  obtain ⟨m, rfl⟩ := Int.eq_ofNat_of_zero_le (Int.le_of_lt ha)
  obtain ⟨n, rfl⟩ := Int.eq_ofNat_of_zero_le (Int.le_of_lt hb)
  rw [lcmI_nat]; exact Int.ofNat_dvd.2 (Nat.dvd_lcm_left m n)
theorem lcmI_right (a b : Int) : b ∣ lcmI a b := Int.dvd_mul_left ..
theorem natCast_dvd' (a : Nat) (c : Int) : (a : Int) ∣ c ↔ a ∣ c.natAbs := Int.ofNat_dvd_left
theorem lcmI_least (a b c : Int) (ha : 0 < a) (hb : 0 < b) (h1 : a ∣ c) (h2 : b ∣ c) : lcmI a b ∣ c := by
  obtain ⟨m, rfl⟩ := Int.eq_ofNat_of_zero_le (Int.le_of_lt ha)
  obtain ⟨n, rfl⟩ := Int.eq_ofNat_of_zero_le (Int.le_of_lt hb)
  rw [lcmI_nat]
  rw [natCast_dvd'] at h1 h2 ⊢
  exact Nat.lcm_dvd h1 h2
/-- what divides a least common multiple and c divides that of the parts of c -/
theorem gcd_lcm_dvd (a b c x : Nat) (ha : 0 < a) (hb : 0 < b) (hc : 0 < c) (h1 : Nat.gcd a c ∣ x) (h2 : Nat.gcd b c ∣ x) : Nat.gcd (Nat.lcm a b) c ∣ x := by
  -- d | lcm (gcd a d) (gcd b d)
  have hd1 : Nat.gcd (Nat.lcm a b) c ∣ Nat.lcm a b := Nat.gcd_dvd_left ..
  have hd2 : Nat.gcd (Nat.lcm a b) c ∣ c := Nat.gcd_dvd_right ..
  have hdp : 0 < Nat.gcd (Nat.lcm a b) c := Nat.gcd_pos_of_pos_right _ hc
  generalize Nat.gcd (Nat.lcm a b) c = d at hd1 hd2 hdp ⊢
  have ga : Nat.gcd a d ∣ x := Nat.dvd_trans (Nat.dvd_gcd (Nat.gcd_dvd_left ..) (Nat.dvd_trans (Nat.gcd_dvd_right ..) hd2)) h1
  have gb : Nat.gcd b d ∣ x := Nat.dvd_trans (Nat.dvd_gcd (Nat.gcd_dvd_left ..) (Nat.dvd_trans (Nat.gcd_dvd_right ..) hd2)) h2
  have hl : Nat.lcm (Nat.gcd a d) (Nat.gcd b d) ∣ x := Nat.lcm_dvd ga gb
  refine Nat.dvd_trans ?_ hl
  -- d * gcd (gcd a d) (gcd b d) divides gcd a d * gcd b d
  have hg : Nat.gcd (Nat.gcd a d) (Nat.gcd b d) ∣ Nat.gcd a b := Nat.dvd_gcd (Nat.dvd_trans (Nat.gcd_dvd_left ..) (Nat.gcd_dvd_left ..)) (Nat.dvd_trans (Nat.gcd_dvd_right ..) (Nat.gcd_dvd_left ..))
  have hg2 : Nat.gcd (Nat.gcd a d) (Nat.gcd b d) ∣ a := Nat.dvd_trans hg (Nat.gcd_dvd_left ..)
  have hg3 : Nat.gcd (Nat.gcd a d) (Nat.gcd b d) ∣ b := Nat.dvd_trans hg (Nat.gcd_dvd_right ..)
  have hg4 : Nat.gcd (Nat.gcd a d) (Nat.gcd b d) ∣ d := Nat.dvd_trans (Nat.gcd_dvd_left ..) (Nat.gcd_dvd_right ..)
  have hgp : 0 < Nat.gcd (Nat.gcd a d) (Nat.gcd b d) := Nat.gcd_pos_of_pos_left _ (Nat.gcd_pos_of_pos_right _ hdp)
  have hmul := Nat.gcd_mul_lcm (Nat.gcd a d) (Nat.gcd b d)
  generalize Nat.gcd (Nat.gcd a d) (Nat.gcd b d) = g at hg hg2 hg3 hg4 hgp hmul
  refine Nat.dvd_of_mul_dvd_mul_left hgp ?_
  rw [hmul]
  -- g * d | gcd a d * gcd b d
  have k1 : g * d ∣ a * b := by
    rw [← Nat.gcd_mul_lcm a b]
    exact Nat.mul_dvd_mul hg hd1
  have k2 : g * d ∣ a * d := Nat.mul_dvd_mul_right hg2 d
  have k3 : g * d ∣ d * b := by rw [Nat.mul_comm g d]; exact Nat.mul_dvd_mul_left d hg3
  have k4 : g * d ∣ d * d := Nat.mul_dvd_mul_right hg4 d
  rw [← Nat.gcd_mul_right, ← Nat.gcd_mul_left, ← Nat.gcd_mul_left]
  exact Nat.dvd_gcd (Nat.dvd_gcd k1 k2) (Nat.dvd_gcd k3 k4)

/-! ### rounds: at ra i modulo re i, i below n -/
/-- the least common multiple of the first n lengths -/
def lcmUp (re : Nat → Int) : Nat → Int
  | 0 => 1
  | n + 1 => lcmI (lcmUp re n) (re n)
def Valids (ra re : Nat → Int) (n : Nat) : Prop := ∀ i, i < n → 1 ≤ re i ∧ re i ≤ 1000 ∧ 0 ≤ ra i ∧ ra i < re i
/-- x is in all of the first n rounds -/
def InAll (ra re : Nat → Int) (n : Nat) (x : Int) : Prop := ∀ i, i < n → x % re i = ra i
def nv (a e b f : Int) : Bool := (a - b).tmod (Int.gcd e f) != 0
def nev (ra re : Nat → Int) (i k : Nat) : Bool := nv (ra i) (re i) (ra k) (re k)
theorem nv_false {a e b f : Int} : nv a e b f = false ↔ (Int.gcd e f : Int) ∣ (a - b) := by
  simp [nv, Int.dvd_iff_tmod_eq_zero]
theorem nev_false {ra re : Nat → Int} {i k : Nat} : nev ra re i k = false ↔ (Int.gcd (re i) (re k) : Int) ∣ (ra i - ra k) := nv_false
theorem nv_found {a e b f j : Int} (h : (a + j * e) % f = b) : nv a e b f = false := nv_false.2 (crt2_conv a j e b f h)
theorem nv_not {a e b f : Int} (he : 0 < e) (hf : 0 < f) (hb : 0 ≤ b ∧ b < f) (h : ∀ j : Nat, (j : Int) < f → (a + j * e) % f ≠ b) : nv a e b f = true := by
  cases hn : nv a e b f
  · obtain ⟨j, hj, hj', h2⟩ := crt2 a e b f he hf hb (nv_false.1 hn)
    obtain ⟨m, rfl⟩ := Int.eq_ofNat_of_zero_le hj
    exact absurd h2 (h m hj')
  · rfl

theorem lcmUp_pos {re : Nat → Int} (n : Nat) (h : ∀ i, i < n → 1 ≤ re i) : 1 ≤ lcmUp re n := by
  induction n with
  | zero => simp [lcmUp]
  | succ n ih => exact lcmI_pos _ _ (by have := ih (fun i hi => h i (by omega)); omega) (by have := h n (by omega); omega)
theorem lcmUp_le {re : Nat → Int} (n : Nat) (h : ∀ i, i < n → 1 ≤ re i ∧ re i ≤ 1000) : lcmUp re n ≤ 1000 ^ n := by
  induction n with
  | zero => simp [lcmUp]
  | succ n ih =>
    have h1 := ih (fun i hi => h i (by omega))
    have h2 := lcmUp_pos n (fun i hi => (h i (by omega)).1)
    have h3 := h n (by omega)
    have := lcmI_le (lcmUp re n) (re n) (by omega) (by omega)
    refine Int.le_trans this ?_
    rw [Int.pow_succ]
    exact Int.mul_le_mul h1 h3.2 (by omega) (by omega)
theorem lcmUp_le15 {re : Nat → Int} (n : Nat) (hn : n ≤ 5) (h : ∀ i, i < n → 1 ≤ re i ∧ re i ≤ 1000) : lcmUp re n ≤ 1000000000000000 := by
  have h1 := lcmUp_le n h
  have h2 : (1000 : Nat) ^ n ≤ 1000 ^ 5 := Nat.pow_le_pow_right (by omega) hn
  have h3 : ((1000 ^ n : Nat) : Int) ≤ ((1000 ^ 5 : Nat) : Int) := Int.ofNat_le.2 h2
  rw [Int.natCast_pow, Int.natCast_pow] at h3
  exact Int.le_trans h1 h3
theorem lcmUp_dvd {re : Nat → Int} (n i : Nat) (h : ∀ i, i < n → 1 ≤ re i) (hi : i < n) : re i ∣ lcmUp re n := by
  induction n with
  | zero => omega
  | succ n ih =>
    have hp := lcmUp_pos n (fun j hj => h j (by omega))
    have hn := h n (by omega)
    by_cases e : i = n
    · subst e; exact lcmI_right ..
    · exact Int.dvd_trans (ih (fun j hj => h j (by omega)) (by omega)) (lcmI_left _ _ (by omega) (by omega))
theorem lcmUp_least {re : Nat → Int} (n : Nat) (c : Int) (h : ∀ i, i < n → 1 ≤ re i) (hc : ∀ i, i < n → re i ∣ c) : lcmUp re n ∣ c := by
  induction n with
  | zero => exact Int.one_dvd _
  | succ n ih =>
    have hp := lcmUp_pos n (fun j hj => h j (by omega))
    have hn := h n (by omega)
    exact lcmI_least _ _ _ (by omega) (by omega) (ih (fun j hj => h j (by omega)) (fun j hj => hc j (by omega))) (hc n (by omega))
/-- what divides each gcd of a length and e divides that of the least common multiple -/
theorem gcd_lcmUp {re : Nat → Int} (n : Nat) (e x : Int) (h : ∀ i, i < n → 1 ≤ re i) (he : 1 ≤ e) (hx : ∀ i, i < n → (Int.gcd (re i) e : Int) ∣ x) : (Int.gcd (lcmUp re n) e : Int) ∣ x := by
  induction n with
  | zero => simp [lcmUp]
  | succ n ih =>
    have hp := lcmUp_pos n (fun j hj => h j (by omega))
    have hn := h n (by omega)
    have h1 := ih (fun j hj => h j (by omega)) (fun j hj => hx j (by omega))
    have h2 := hx n (by omega)
    show (Int.gcd (lcmI (lcmUp re n) (re n)) e : Int) ∣ x
    generalize lcmUp re n = A at hp h1
    generalize re n = B at hn h2
    obtain ⟨a, rfl⟩ := Int.eq_ofNat_of_zero_le (show 0 ≤ A by omega)
    obtain ⟨b, rfl⟩ := Int.eq_ofNat_of_zero_le (show 0 ≤ B by omega)
    obtain ⟨c, rfl⟩ := Int.eq_ofNat_of_zero_le (show 0 ≤ e by omega)
    rw [lcmI_nat]
    rw [natCast_dvd'] at h1 h2 ⊢
    exact gcd_lcm_dvd a b c _ (by omega) (by omega) (by omega) h1 h2

theorem InAll.snoc {ra re : Nat → Int} {n : Nat} {x : Int} (h : InAll ra re n x) (h' : x % re n = ra n) : InAll ra re (n + 1) x := fun i hi => by
  by_cases e : i = n
  · subst e; exact h'
  · exact h i (by omega)
theorem InAll.mono {ra re : Nat → Int} {n m : Nat} {x : Int} (h : InAll ra re n x) (hm : m ≤ n) : InAll ra re m x := fun i hi => h i (by omega)
theorem InAll.shift {ra re : Nat → Int} {n : Nat} {x j : Int} (hv : ∀ i, i < n → 1 ≤ re i) (h : InAll ra re n x) : InAll ra re n (x + j * lcmUp re n) := fun i hi => by
  obtain ⟨t, ht⟩ := lcmUp_dvd n i hv hi
  rw [ht, show x + j * (re i * t) = x + re i * (j * t) from by rw [Int.mul_left_comm], Int.add_mul_emod_self_left]
  exact h i hi
theorem InAll.mod {ra re : Nat → Int} {n : Nat} {x : Int} (hv : ∀ i, i < n → 1 ≤ re i) (h : InAll ra re n x) : InAll ra re n (x % lcmUp re n) := fun i hi => by
  rw [Int.emod_emod_of_dvd _ (lcmUp_dvd n i hv hi)]; exact h i hi
/-- two hours in all rounds are a multiple of the least common multiple apart -/
theorem InAll.apart {ra re : Nat → Int} {n : Nat} {x y : Int} (hv : ∀ i, i < n → 1 ≤ re i) (h : InAll ra re n x) (h' : InAll ra re n y) : lcmUp re n ∣ (x - y) :=
  lcmUp_least n _ hv (fun i hi => by
    have := (h i hi).trans (h' i hi).symm
    exact Int.dvd_of_emod_eq_zero (Int.emod_eq_emod_iff_emod_sub_eq_zero.1 this))
theorem InAll.eq {ra re : Nat → Int} {n : Nat} {x y : Int} (hv : ∀ i, i < n → 1 ≤ re i) (h : InAll ra re n x) (h' : InAll ra re n y) (hx : 0 ≤ x ∧ x < lcmUp re n) (hy : 0 ≤ y ∧ y < lcmUp re n) : x = y := by
  have h1 := Int.emod_emod_of_dvd 0 (Int.one_dvd 0)
  have h2 := Int.emod_eq_emod_iff_emod_sub_eq_zero.2 (Int.emod_eq_zero_of_dvd (h.apart hv h'))
  rwa [Int.emod_eq_of_lt hx.1 hx.2, Int.emod_eq_of_lt hy.1 hy.2] at h2
/-- THE STEP: an hour of the first n rounds, no two of which and the next never meet, leads to one that is in the next, too -/
theorem crt_step {ra re : Nat → Int} {n : Nat} {x : Int} (hv : Valids ra re (n + 1)) (h : InAll ra re n x) (hp : ∀ i, i < n → nev ra re i n = false) :
    ∃ j : Int, 0 ≤ j ∧ j < re n ∧ (x + j * lcmUp re n) % re n = ra n := by
  have hn := hv n (by omega)
  have hl := lcmUp_pos n (fun i hi => (hv i (by omega)).1)
  refine crt2 x (lcmUp re n) (ra n) (re n) (by omega) (by omega) ⟨hn.2.2.1, hn.2.2.2⟩ ?_
  refine gcd_lcmUp n (re n) _ (fun i hi => (hv i (by omega)).1) hn.1 (fun i hi => ?_)
  have h1 := nev_false.1 (hp i hi)
  have h2 : (Int.gcd (re i) (re n) : Int) ∣ (x - ra i) := by
    refine Int.dvd_trans (Int.gcd_dvd_left ..) ?_
    rw [← h i hi]; exact Int.dvd_self_sub_emod
  have := Int.dvd_add h2 h1
  rwa [show x - ra i + (ra i - ra n) = x - ra n from by omega] at this
/-- two rounds that meet do not never meet -/
theorem nev_of_meet {ra re : Nat → Int} {n i k : Nat} {x : Int} (h : InAll ra re n x) (hi : i < n) (hk : k < n) : nev ra re i k = false := by
  rw [nev_false]
  have h1 : (Int.gcd (re i) (re k) : Int) ∣ (x - ra i) := by
    refine Int.dvd_trans (Int.gcd_dvd_left ..) ?_
    rw [← h i hi]; exact Int.dvd_self_sub_emod
  have h2 : (Int.gcd (re i) (re k) : Int) ∣ (x - ra k) := by
    refine Int.dvd_trans (Int.gcd_dvd_right ..) ?_
    rw [← h k hk]; exact Int.dvd_self_sub_emod
  have := Int.dvd_sub h2 h1
  rwa [show x - ra k - (x - ra i) = ra i - ra k from by omega] at this
/-- rounds of which no two never meet meet -/
theorem crt {ra re : Nat → Int} (n : Nat) (hv : Valids ra re n) (hp : ∀ i k, i < k → k < n → nev ra re i k = false) : ∃ x : Int, 0 ≤ x ∧ InAll ra re n x := by
  induction n with
  | zero => exact ⟨0, by omega, fun i hi => by omega⟩
  | succ n ih =>
    obtain ⟨x, hx, h⟩ := ih (fun i hi => hv i (by omega)) (fun i k hik hk => hp i k hik (by omega))
    obtain ⟨j, hj, _, he⟩ := crt_step hv h (fun i hi => hp i n hi (by omega))
    have hl := lcmUp_pos n (fun i hi => (hv i (by omega)).1)
    refine ⟨x + j * lcmUp re n, ?_, (h.shift (fun i hi => (hv i (by omega)).1)).snoc he⟩
    have := Int.mul_nonneg hj (show 0 ≤ lcmUp re n by omega)
    omega

/-! ### the hour that the code looks for, round by round -/
def firstHit (x m r e : Int) : Nat := ((List.range e.toNat).find? (fun j : Nat => (x + (j : Int) * m) % e == r)).getD 0
theorem firstHit_eq {x m r e : Int} {j : Nat} (hj : (j : Int) < e) (h : (x + j * m) % e = r) (hno : ∀ i : Nat, i < j → (x + i * m) % e ≠ r) : firstHit x m r e = j := by
  unfold firstHit
  have : (List.range e.toNat).find? (fun j : Nat => (x + (j : Int) * m) % e == r) = some j := by
    rw [List.find?_range_eq_some]
    exact ⟨by simpa using h, by simp; omega, fun i hi => by simpa using hno i hi⟩
  rw [this]; rfl
/-- an hour of the first k rounds (the least) -/
def meetUp (ra re : Nat → Int) : Nat → Int
  | 0 => 0
  | k + 1 => meetUp ra re k + firstHit (meetUp ra re k) (lcmUp re k) (ra k) (re k) * lcmUp re k
theorem hit_lt {x m r e : Int} {j : Nat} (hx : 0 ≤ x ∧ x < m) (he : 0 < e) (h : (x + j * m) % e = r) (hno : ∀ i : Nat, i < j → (x + i * m) % e ≠ r) : x + j * m < lcmI m e := by
  have hm : 0 < m := by omega
  have hL := lcmI_pos m e hm he
  have h0 : 0 ≤ x + j * m := by have := Int.mul_nonneg (show (0 : Int) ≤ j by omega) (Int.le_of_lt hm); omega
  have z0 := Int.emod_nonneg (x + j * m) (b := lcmI m e) (by omega)
  have z1 := Int.emod_lt_of_pos (x + j * m) (b := lcmI m e) (by omega)
  have z2 : (x + j * m) % lcmI m e % e = r := by rw [Int.emod_emod_of_dvd _ (lcmI_right m e)]; exact h
  have z3 : (x + j * m) % lcmI m e % m = x := by rw [Int.emod_emod_of_dvd _ (lcmI_left m e hm he), Int.add_mul_emod_self_right, Int.emod_eq_of_lt hx.1 hx.2]
  generalize (x + j * m) % lcmI m e = z at z0 z1 z2 z3
  have z4 := Int.emod_add_mul_ediv z m
  have z5 : 0 ≤ z / m := Int.ediv_nonneg z0 (by omega)
  obtain ⟨t, ht⟩ := Int.eq_ofNat_of_zero_le z5
  rw [ht, z3] at z4
  have z6 : (x + t * m) % e = r := by rw [show x + (t : Int) * m = z from by rw [← z4, Int.mul_comm]]; exact z2
  by_cases hlt : t < j
  · exact absurd z6 (hno t hlt)
  · have : (j : Int) * m ≤ t * m := Int.mul_le_mul_of_nonneg_right (by omega) (by omega)
    rw [Int.mul_comm m] at z4
    omega
/-- what holds of it behind k rounds -/
def Met (ra re : Nat → Int) (k : Nat) : Prop := InAll ra re k (meetUp ra re k) ∧ 0 ≤ meetUp ra re k ∧ meetUp ra re k < lcmUp re k
theorem met_zero (ra re : Nat → Int) : Met ra re 0 := ⟨fun i hi => by omega, by simp [meetUp], by simp [meetUp, lcmUp]⟩
theorem met_step {ra re : Nat → Int} {k j : Nat} (hv : Valids ra re (k + 1)) (h : Met ra re k) (hj : (j : Int) < re k) (hit : (meetUp ra re k + j * lcmUp re k) % re k = ra k) (hno : ∀ i : Nat, i < j → (meetUp ra re k + i * lcmUp re k) % re k ≠ ra k) :
    Met ra re (k + 1) ∧ meetUp ra re (k + 1) = meetUp ra re k + j * lcmUp re k := by
  have e : meetUp ra re (k + 1) = meetUp ra re k + j * lcmUp re k := by
    show meetUp ra re k + firstHit (meetUp ra re k) (lcmUp re k) (ra k) (re k) * lcmUp re k = _
    rw [firstHit_eq hj hit hno]
  have hl := lcmUp_pos k (fun i hi => (hv i (by omega)).1)
  have hk := hv k (by omega)
  refine ⟨⟨?_, ?_, ?_⟩, e⟩
  · rw [e]; exact (h.1.shift (fun i hi => (hv i (by omega)).1)).snoc hit
  · rw [e]; have := Int.mul_nonneg (show (0 : Int) ≤ j by omega) (show 0 ≤ lcmUp re k by omega); have := h.2.1; omega
  · rw [e]; exact hit_lt ⟨h.2.1, h.2.2⟩ (by omega) hit hno
/-- where no two never meet there is a hit -/
theorem met_hit {ra re : Nat → Int} {k : Nat} (hv : Valids ra re (k + 1)) (h : Met ra re k) (hp : ∀ i, i < k → nev ra re i k = false) :
    ∃ j : Nat, (j : Int) < re k ∧ (meetUp ra re k + j * lcmUp re k) % re k = ra k := by
  obtain ⟨j, h0, h1, h2⟩ := crt_step hv h.1 hp
  obtain ⟨m, rfl⟩ := Int.eq_ofNat_of_zero_le h0
  exact ⟨m, h1, h2⟩
theorem met_all {ra re : Nat → Int} (n : Nat) (hv : Valids ra re n) (hp : ∀ i k, i < k → k < n → nev ra re i k = false) : Met ra re n := by
  induction n with
  | zero => exact met_zero ra re
  | succ n ih =>
    have h := ih (fun i hi => hv i (by omega)) (fun i k hik hk => hp i k hik (by omega))
    obtain ⟨j, hj, hh⟩ := met_hit hv h (fun i hi => hp i n hi (by omega))
    have key : ∀ m : Nat, (∃ j : Nat, j < m ∧ (j : Int) < re n ∧ (meetUp ra re n + j * lcmUp re n) % re n = ra n) → ∃ j : Nat, (j : Int) < re n ∧ (meetUp ra re n + j * lcmUp re n) % re n = ra n ∧ ∀ i : Nat, i < j → (meetUp ra re n + i * lcmUp re n) % re n ≠ ra n := by
      intro m
      induction m with
      | zero => rintro ⟨j, hj, _⟩; omega
      | succ m ihm =>
        rintro ⟨j, hj1, hj2, hj3⟩
        by_cases hh : ∃ j : Nat, j < m ∧ (j : Int) < re n ∧ (meetUp ra re n + j * lcmUp re n) % re n = ra n
        · exact ihm hh
        · refine ⟨j, hj2, hj3, fun i hi he => hh ⟨i, by omega, by omega, he⟩⟩
    obtain ⟨j, h1, h2, h3⟩ := key (j + 1) ⟨j, by omega, hj, hh⟩
    exact (met_step hv h h1 h2 h3).1

/-- the first pair of which a test says so; (0, 0, false) if there is none -/
def pairOf (nw : Nat → Nat → Bool) (n : Nat) : Int × Int × Bool :=
  match (List.range n).find? (fun i => (List.range n).any (fun k => decide (i < k) && nw i k)) with
  | none => (0, 0, false)
  | some i => match (List.range n).find? (fun k => decide (i < k) && nw i k) with
    | none => (0, 0, false)
    | some k => (i, k, true)
theorem pairOf_some {nw : Nat → Nat → Bool} {n i k : Nat} (h1 : i < k) (h2 : k < n) (h3 : nw i k = true) (h4 : ∀ x y, x < i → x < y → y < n → nw x y = false) (h5 : ∀ y, i < y → y < k → nw i y = false) : pairOf nw n = ((i : Int), (k : Int), true) := by
  unfold pairOf
  have e1 : (List.range n).find? (fun i => (List.range n).any (fun k => decide (i < k) && nw i k)) = some i := by
    rw [List.find?_range_eq_some]
    refine ⟨?_, by simp; omega, fun x hx => ?_⟩
    · rw [List.any_eq_true]; exact ⟨k, by simpa using h2, by simp [h1, h3]⟩
    · rw [Bool.not_eq_true', List.any_eq_false]
      intro y hy
      by_cases e : x < y
      · have := h4 x y hx e (by simpa using hy); simp [this]
      · simp [e]
  have e2 : (List.range n).find? (fun k => decide (i < k) && nw i k) = some k := by
    rw [List.find?_range_eq_some]
    refine ⟨by simp [h1, h3], by simp; omega, fun y hy => ?_⟩
    by_cases e : i < y
    · have := h5 y e hy; simp [this]
    · simp [e]
  simp [e1, e2]
theorem pairOf_none {nw : Nat → Nat → Bool} {n : Nat} (h : ∀ x y, x < y → y < n → nw x y = false) : pairOf nw n = (0, 0, false) := by
  unfold pairOf
  have e1 : (List.range n).find? (fun i => (List.range n).any (fun k => decide (i < k) && nw i k)) = none := by
    rw [List.find?_eq_none]
    intro x hx
    rw [Bool.not_eq_true, List.any_eq_false]
    intro y hy
    by_cases e : x < y
    · have := h x y e (by simpa using hy); simp [this]
    · simp [e]
  simp [e1]
/-- what the pair says -/
theorem pairOf_spec (nw : Nat → Nat → Bool) (n : Nat) : (∃ i k : Nat, pairOf nw n = ((i : Int), (k : Int), true) ∧ i < k ∧ k < n ∧ nw i k = true) ∨ (pairOf nw n = (0, 0, false) ∧ ∀ x y, x < y → y < n → nw x y = false) := by
  unfold pairOf
  split
  · rename_i h
    refine .inr ⟨rfl, fun x y hxy hy => ?_⟩
    have := List.find?_eq_none.1 h x (by simp; omega)
    rw [Bool.not_eq_true, List.any_eq_false] at this
    have := this y (by simpa using hy)
    simpa [hxy] using this
  · rename_i i h
    have h1 := List.find?_some h
    rw [List.any_eq_true] at h1
    obtain ⟨k, hk, hk2⟩ := h1
    split
    · rename_i h2
      exact absurd hk2 (List.find?_eq_none.1 h2 k hk)
    · rename_i k' h2
      have h3 := List.find?_some h2
      have h4 := List.mem_of_find?_eq_some h2
      simp only [Bool.and_eq_true, decide_eq_true_eq] at h3
      exact .inl ⟨i, k', rfl, h3.1, by simpa using h4, h3.2⟩
theorem pairOf_false {nw : Nat → Nat → Bool} {n : Nat} (h : (pairOf nw n).2.2 = false) : ∀ x y, x < y → y < n → nw x y = false := by
  rcases pairOf_spec nw n with ⟨i, k, e, _⟩ | ⟨_, h2⟩
  · rw [e] at h; cases h
  · exact h2
theorem pairOf_true {nw : Nat → Nat → Bool} {n : Nat} {i k : Nat} (h1 : i < k) (h2 : k < n) (h3 : nw i k = true) : (pairOf nw n).2.2 = true := by
  rcases pairOf_spec nw n with ⟨i, k, e, _⟩ | ⟨_, h4⟩
  · rw [e]
  · rw [h4 i k h1 h2] at h3; cases h3
end Go.Proofs.Ytfabpkcgdblnbaa
