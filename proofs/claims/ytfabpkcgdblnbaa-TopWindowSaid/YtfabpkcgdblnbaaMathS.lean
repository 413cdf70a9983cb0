/-
  Plain arithmetic on hours of a period: how many there are, where spans begin. No program in sight. Conditions: none.
-/
import Derived.Test.YtfabpkcgdblnbaaWm
namespace Go.Proofs.Ytfabpkcgdblnbaa
set_option linter.unusedVariables false
set_option linter.unusedSimpArgs false

/-- strictly ascending hours of a period -/
def Asc (p n : Nat) (h : Nat → Int) : Prop := ∀ i, i < n → (0 ≤ h i ∧ h i < p) ∧ (0 < i → h (i - 1) < h i)
theorem asc_of {p n : Nat} {h : Nat → Int} {most : Int} (hw : winB p n h most = true) : Asc p n h := (winB_true.1 hw).2
theorem Asc.ge {p n : Nat} {h : Nat → Int} (ha : Asc p n h) : ∀ i, i < n → (i : Int) ≤ h i := by
  intro i
  induction i with
  | zero => intro hi; exact (ha 0 hi).1.1
  | succ i ih =>
    intro hi
    have h1 := ih (by omega)
    have h2 := (ha (i + 1) hi).2 (by omega)
    simp only [Nat.add_sub_cancel] at h2
    omega
theorem Asc.mono {p n : Nat} {h : Nat → Int} (ha : Asc p n h) (i d : Nat) (hd : i + d < n) : h i + d ≤ h (i + d) := by
  induction d with
  | zero => simp
  | succ d ih =>
    have h1 := ih (by omega)
    have h2 := (ha (i + (d + 1)) hd).2 (by omega)
    rw [show i + (d + 1) - 1 = i + d from by omega] at h2
    omega
theorem Asc.le {p n : Nat} {h : Nat → Int} (ha : Asc p n h) : n ≤ p := by
  rcases Nat.eq_zero_or_pos n with h0 | h0
  · omega
  · have := ha.ge (n - 1) (by omega)
    have := (ha (n - 1) (by omega)).1.2
    omega
theorem opn_true {n : Nat} {h : Nat → Int} {j : Nat} : opn n h j = true ↔ ∃ i, i < n ∧ h i = j := by simp [opn, anyB_true]
theorem opn_false {n : Nat} {h : Nat → Int} {j : Nat} : opn n h j = false ↔ ∀ i, i < n → h i ≠ j := by simp [opn, anyB_false]
/-- all hours of the period: every one is open -/
theorem opn_full {p : Nat} {h : Nat → Int} (ha : Asc p p h) (j : Nat) (hj : j < p) : opn p h j = true := by
  refine opn_true.2 ⟨j, hj, ?_⟩
  have h1 := ha.ge j hj
  have h2 := ha.mono j (p - 1 - j) (by omega)
  rw [show j + (p - 1 - j) = p - 1 from by omega] at h2
  have h3 := (ha (p - 1) (by omega)).1.2
  omega
/-- fewer: one is not -/
theorem opn_gap {p n : Nat} {h : Nat → Int} (ha : Asc p n h) (hn : n < p) : ∃ j, j < p ∧ opn n h j = false := by
  apply Classical.byContradiction
  intro hc
  have hall : ∀ j, j < p → ∃ i, i < n ∧ h i = j := fun j hj => by
    cases e : opn n h j
    · exact absurd ⟨j, hj, e⟩ hc
    · exact opn_true.1 e
  have key : ∀ i, i < n → h i = i := by
    intro i
    induction i using Nat.strongRecOn with
    | _ i ih =>
      intro hi
      obtain ⟨m, hm, hm2⟩ := hall i (by have := ha.le; omega)
      have h1 := ha.ge i hi
      rcases Nat.lt_or_ge m i with h2 | h2
      · have := ih m h2 hm; omega
      · have := ha.mono i (m - i) (by omega)
        rw [show i + (m - i) = m from by omega] at this
        omega
  obtain ⟨m, hm, hm2⟩ := hall n hn
  have := key m hm
  omega

/-! ### spans -/
def spanLen (p : Nat) (f : Nat → Bool) (s : Nat) : Nat := ((List.range p).find? (fun j => !f ((s + j) % p))).getD p
theorem spanLen_eq {p s j : Nat} {f : Nat → Bool} (hj : j < p) (h : f ((s + j) % p) = false) (hno : ∀ i, i < j → f ((s + i) % p) = true) : spanLen p f s = j := by
  unfold spanLen
  have : (List.range p).find? (fun j => !f ((s + j) % p)) = some j := by
    rw [List.find?_range_eq_some]
    exact ⟨by simp [h], by simp; omega, fun i hi => by simp [hno i hi]⟩
  rw [this]; rfl
theorem spanLen_pos {p s : Nat} {f : Nat → Bool} (hs : s < p) (h : f s = true) : 0 < spanLen p f s := by
  unfold spanLen
  cases e : (List.range p).find? (fun j => !f ((s + j) % p)) with
  | none => simp; omega
  | some j =>
    have h1 := List.find?_some e
    simp only [Option.getD_some]
    rcases Nat.eq_zero_or_pos j with h0 | h0
    · subst h0
      rw [Nat.add_zero, Nat.mod_eq_of_lt hs, h] at h1
      cases h1
    · exact h0
/-- the longest span of those that begin before hour k -/
def bestTo (p : Nat) (f : Nat → Bool) : Nat → Nat × Nat
  | 0 => (0, 0)
  | k + 1 => if !f ((k + p - 1) % p) && decide ((bestTo p f k).2 < spanLen p f k) then (k, spanLen p f k) else bestTo p f k
theorem bestTo_skip {p k : Nat} {f : Nat → Bool} (h : f ((k + p - 1) % p) = true) : bestTo p f (k + 1) = bestTo p f k := by simp [bestTo, h]
theorem bestTo_closed {p k : Nat} {f : Nat → Bool} (hk : k < p) (h : f k = false) : bestTo p f (k + 1) = bestTo p f k := by
  have : spanLen p f k = 0 := spanLen_eq (by omega) (by rw [Nat.add_zero, Nat.mod_eq_of_lt hk]; exact h) (by omega)
  simp [bestTo, this]
theorem bestTo_take {p k : Nat} {f : Nat → Bool} (h : f ((k + p - 1) % p) = false) (hb : (bestTo p f k).2 < spanLen p f k) : bestTo p f (k + 1) = (k, spanLen p f k) := by simp [bestTo, h, hb]
theorem bestTo_leave {p k : Nat} {f : Nat → Bool} (hb : ¬ (bestTo p f k).2 < spanLen p f k) : bestTo p f (k + 1) = bestTo p f k := by simp [bestTo, hb]
theorem bestTo_mono {p : Nat} {f : Nat → Bool} (k : Nat) : (bestTo p f k).2 ≤ (bestTo p f (k + 1)).2 := by
  simp only [bestTo]
  split
  · rename_i h
    simp only [Bool.and_eq_true, decide_eq_true_eq] at h
    exact Nat.le_of_lt h.2
  · exact Nat.le_refl _
theorem bestTo_le {p : Nat} {f : Nat → Bool} (k d : Nat) : (bestTo p f k).2 ≤ (bestTo p f (k + d)).2 := by
  induction d with
  | zero => exact Nat.le_refl _
  | succ d ih => exact Nat.le_trans ih (bestTo_mono (k + d))
theorem bestTo_none {p : Nat} {f : Nat → Bool} (h : (∀ j, j < p → f j = false) ∨ (∀ j, j < p → f j = true)) : ∀ k, k ≤ p → bestTo p f k = (0, 0) := by
  intro k
  induction k with
  | zero => intro _; rfl
  | succ k ih =>
    intro hk
    rcases h with h | h
    · rw [bestTo_closed (by omega) (h k (by omega))]; exact ih (by omega)
    · rw [bestTo_skip (h _ (Nat.mod_lt _ (by omega)))]; exact ih (by omega)
theorem before_after (p x : Nat) (hp : 0 < p) : ((x + 1) % p + p - 1) % p = x % p := by
  have h1 := Nat.mod_add_div (x + 1) p
  have hlt := Nat.mod_lt (x + 1) hp
  generalize (x + 1) % p = a at *
  generalize (x + 1) / p = q at *
  rcases Nat.eq_zero_or_pos a with h0 | h0
  · subst h0
    have hq : 0 < q := by
      rcases Nat.eq_zero_or_pos q with h | h
      · subst h; omega
      · exact h
    obtain ⟨r, rfl⟩ : ∃ r, q = r + 1 := ⟨q - 1, by omega⟩
    rw [Nat.mul_add, Nat.mul_one] at h1
    rw [show x = (p - 1) + p * r from by omega, Nat.add_mul_mod_self_left]
    congr 1; omega
  · rw [show a + p - 1 = (a - 1) + p from by omega, Nat.add_mod_right, show x = (a - 1) + p * q from by omega, Nat.add_mul_mod_self_left]
/-- where one hour is open and one is not a span begins -/
theorem span_begins {p a b : Nat} {f : Nat → Bool} (ha : a < p) (hb : b < p) (h1 : f a = true) (h2 : f b = false) : ∃ k, k < p ∧ f k = true ∧ f ((k + p - 1) % p) = false := by
  apply Classical.byContradiction
  intro hc
  have key : ∀ j, f ((b + j) % p) = false := by
    intro j
    induction j with
    | zero => rw [Nat.add_zero, Nat.mod_eq_of_lt hb]; exact h2
    | succ j ih =>
      cases e : f ((b + (j + 1)) % p)
      · rfl
      · refine absurd ⟨(b + (j + 1)) % p, Nat.mod_lt _ (by omega), e, ?_⟩ hc
        rw [show b + (j + 1) = (b + j) + 1 from by omega, before_after p (b + j) (by omega)]
        exact ih
  have := key (a + p - b)
  rw [show b + (a + p - b) = a + p from by omega, Nat.add_mod_right, Nat.mod_eq_of_lt ha, h1] at this
  cases this
theorem bestTo_some {p a b : Nat} {f : Nat → Bool} (ha : a < p) (hb : b < p) (h1 : f a = true) (h2 : f b = false) : 0 < (bestTo p f p).2 := by
  obtain ⟨k, hk, hk1, hk2⟩ := span_begins ha hb h1 h2
  have h3 := spanLen_pos hk hk1
  have h4 : 0 < (bestTo p f (k + 1)).2 := by
    by_cases h5 : (bestTo p f k).2 < spanLen p f k
    · rw [bestTo_take hk2 h5]; exact h3
    · rw [bestTo_leave h5]; omega
  have h5 := bestTo_le (p := p) (f := f) (k + 1) (p - (k + 1))
  rw [show k + 1 + (p - (k + 1)) = p from by omega] at h5
  omega
end Go.Proofs.Ytfabpkcgdblnbaa
