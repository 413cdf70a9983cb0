/-
  Plain laws about the least period and the window of a row of bools. Conditions: none.
-/
import Derived.Test.YtfabpkcgdblnbaaV7
namespace Go.Proofs.Ytfabpkcgdblnbaa
set_option linter.unusedVariables false
set_option linter.unusedSimpArgs false
open Go.RowKit

theorem isPer_true {p q : Nat} {f : Nat → Bool} : isPer p f q = true ↔ 0 < q ∧ p % q = 0 ∧ ∀ h, h < p → f h = f (h % q) := by
  unfold isPer
  simp only [Bool.and_eq_true, decide_eq_true_eq, perB_true]
  exact and_assoc
theorem plainP_fact {p : Nat} (f : Nat → Bool) (hp : 0 < p) :
    (p % plainP p f = 0 ∧ ∀ h, h < p → f h = f (h % plainP p f)) ∧ ∀ j, j < plainP p f → isPer p f j = false := by
  unfold plainP
  cases e : (List.range p).find? (isPer p f) with
  | none =>
    rw [List.find?_eq_none] at e
    simp only [Option.getD_none]
    refine ⟨⟨Nat.mod_self p, fun h hh => by rw [Nat.mod_eq_of_lt hh]⟩, fun j hj => ?_⟩
    have := e j (by simpa using hj)
    simpa using this
  | some q =>
    rw [List.find?_range_eq_some] at e
    obtain ⟨h1, h2, h3⟩ := e
    simp only [Option.getD_some]
    exact ⟨(isPer_true.1 h1).2, fun j hj => by simpa using h3 j hj⟩
theorem plainP_idem {p : Nat} (f : Nat → Bool) (hp : 0 < p) : plainP (plainP p f) f = plainP p f := by
  have h0 := plainP_pos f hp
  have hle := plainP_le p f
  obtain ⟨⟨h1, h2⟩, h3⟩ := plainP_fact f hp
  refine plainP_none fun j hj => ?_
  cases e : isPer (plainP p f) f j
  · rfl
  · obtain ⟨e1, e2, e3⟩ := isPer_true.1 e
    have hd : j ∣ plainP p f := Nat.dvd_of_mod_eq_zero e2
    have : isPer p f j = true := isPer_true.2 ⟨e1, Nat.mod_eq_zero_of_dvd (Nat.dvd_trans hd (Nat.dvd_of_mod_eq_zero h1)), fun h hh => by
      rw [h2 h hh, e3 (h % plainP p f) (Nat.mod_lt _ h0), Nat.mod_mod_of_dvd _ hd]⟩
    rw [h3 j hj] at this; cases this
theorem anyB_congr {n : Nat} {f g : Nat → Bool} (h : ∀ i, i < n → f i = g i) : anyB n f = anyB n g := by
  rw [Bool.eq_iff_iff, anyB_true, anyB_true]
  constructor
  · rintro ⟨i, hi, e⟩; exact ⟨i, hi, by rw [← h i hi]; exact e⟩
  · rintro ⟨i, hi, e⟩; exact ⟨i, hi, by rw [h i hi]; exact e⟩
theorem perB_congr {p q : Nat} {f g : Nat → Bool} (hq : 0 < q) (h : ∀ j, j < p → f j = g j) : perB p f q = perB p g q := by
  unfold perB
  congr 1
  refine anyB_congr fun i hi => ?_
  rw [h i hi, h (i % q) (Nat.lt_of_le_of_lt (Nat.mod_le _ _) hi)]
theorem isPer_congr {p q : Nat} {f g : Nat → Bool} (h : ∀ j, j < p → f j = g j) : isPer p f q = isPer p g q := by
  unfold isPer
  by_cases hq : 0 < q
  · rw [perB_congr hq h]
  · simp [hq]
theorem plainP_congr {p : Nat} {f g : Nat → Bool} (h : ∀ j, j < p → f j = g j) : plainP p f = plainP p g := by
  unfold plainP
  rw [show isPer p f = isPer p g from funext fun q => isPer_congr h]
theorem hsL_congr {p : Nat} {f g : Nat → Bool} (h : ∀ j, j < p → f j = g j) : hsL f p = hsL g p := hsL_inj.2 h
theorem hsF_congr {p : Nat} {f g : Nat → Bool} (h : ∀ j, j < p → f j = g j) : hsF f p = hsF g p := by
  unfold hsF; rw [hsL_congr h]
theorem wvOk_congr {p : Nat} {f g : Nat → Bool} (h : ∀ j, j < p → f j = g j) : wvOk p f = wvOk p g := by
  unfold wvOk; rw [hsL_congr h, hsF_congr h]
theorem eqB_congr {p q : Nat} {f g f' g' : Nat → Bool} (h : ∀ j, j < p → f j = f' j) (hg : ∀ j, j < q → g j = g' j) : eqB p f q g = eqB p f' q g' := by
  unfold eqB
  by_cases e : p = q
  · subst e
    rw [anyB_congr fun i hi => by rw [h i hi, hg i hi]]
  · simp [e]
theorem eqB_true {p q : Nat} {f g : Nat → Bool} : eqB p f q g = true ↔ p = q ∧ ∀ j, j < p → f j = g j := by
  unfold eqB
  rw [Bool.and_eq_true, decide_eq_true_iff, Bool.not_eq_true', anyB_false]
  simp
theorem opn_hs {f : Nat → Bool} {p j : Nat} (hj : j < p) : opn (hsL f p).length (hsF f p) j = f j := by
  rw [Bool.eq_iff_iff, opn_true]
  unfold hsF
  constructor
  · rintro ⟨i, hi, e⟩
    have : j = (hsL f p)[i] := by simp [hi] at e; exact (Int.ofNat_inj.1 e).symm
    exact (mem_hsL.1 (this ▸ List.getElem_mem hi)).2
  · intro hf
    obtain ⟨i, hi, e⟩ := List.getElem_of_mem (mem_hsL.2 ⟨hj, hf⟩)
    exact ⟨i, hi, by simp [hi, e]⟩
theorem winB_hs {f : Nat → Bool} {p : Nat} {most : Int} (h1 : 1 ≤ p) (h2 : (p : Int) ≤ most) : winB p (hsL f p).length (hsF f p) most = true := by
  refine winB_true.2 ⟨⟨by omega, h2⟩, fun i hi => ?_⟩
  have hs : (hsL f p).Pairwise (· < ·) := List.Pairwise.filter _ List.pairwise_lt_range
  have hm := mem_hsL.1 (List.getElem_mem hi)
  refine ⟨⟨?_, ?_⟩, fun h0 => ?_⟩
  · unfold hsF; omega
  · unfold hsF; simp [hi]; omega
  · have := (List.pairwise_iff_getElem.1 hs) (i - 1) i (by omega) hi (by omega)
    unfold hsF; simp [hi, show i - 1 < (hsL f p).length from by omega]
    exact this
/-- two windows that are the same have the same hours -/
theorem plain_at {p : Nat} {f : Nat → Bool} (hp : 0 < p) (x : Nat) : f (x % p) = f (x % plainP p f) := by
  obtain ⟨⟨h1, h2⟩, _⟩ := plainP_fact f hp
  rw [h2 (x % p) (Nat.mod_lt _ hp), Nat.mod_mod_of_dvd _ (Nat.dvd_of_mod_eq_zero h1)]
theorem same_at {p q : Nat} {f g : Nat → Bool} (hp : 0 < p) (hq : 0 < q) (h : eqB (plainP p f) f (plainP q g) g = true) (x : Nat) : f (x % p) = g (x % q) := by
  obtain ⟨e1, e2⟩ := eqB_true.1 h
  rw [plain_at (f := f) hp x, plain_at (f := g) hq x, ← e1, e2 _ (Nat.mod_lt _ (plainP_pos f hp))]
end Go.Proofs.Ytfabpkcgdblnbaa
