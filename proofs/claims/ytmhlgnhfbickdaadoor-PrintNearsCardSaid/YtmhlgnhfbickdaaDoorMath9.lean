/-
  Plain laws: those of several prints that are near, and sums of distances. Conditions: stated at each.
-/
import Derived.Test.YtmhlgnhfbickdaaDoorMath7
namespace Go.Proofs.YtmhlgnhfbickdaaDoor
set_option linter.unusedVariables false
set_option linter.unusedSimpArgs false

/-- the places whose number is at most so much -/
def nearL (n : Nat) (f : Nat → Int) (most : Int) : List Int := ((List.range n).filter fun i => decide (f i ≤ most)).map fun (i : Nat) => (i : Int)
theorem nearL_zero (f : Nat → Int) (most : Int) : nearL 0 f most = [] := rfl
theorem nearL_in {n : Nat} {f : Nat → Int} {most : Int} (h : f n ≤ most) : nearL (n + 1) f most = nearL n f most ++ [(n : Int)] := by
  unfold nearL
  rw [List.range_succ, List.filter_append, List.map_append]
  simp [h]
theorem nearL_out {n : Nat} {f : Nat → Int} {most : Int} (h : ¬ f n ≤ most) : nearL (n + 1) f most = nearL n f most := by
  unfold nearL
  rw [List.range_succ, List.filter_append, List.map_append]
  simp [h]
theorem nearL_len (n : Nat) (f : Nat → Int) (most : Int) : (nearL n f most).length ≤ n := by
  unfold nearL
  rw [List.length_map]
  exact Nat.le_trans (List.length_filter_le _ _) (by simp)
theorem nearL_none {n : Nat} {f : Nat → Int} {most : Int} (h : ∀ j, j < n → most < f j) : nearL n f most = [] := by
  induction n with
  | zero => rfl
  | succ n ih => rw [nearL_out (by have := h n (by omega); omega)]; exact ih fun j hj => h j (by omega)
theorem nearL_first {n k : Nat} {f : Nat → Int} {most : Int} (hk : k < n) (h1 : f k ≤ most) (h2 : ∀ j, j < k → most < f j) : ∃ r, nearL n f most = (k : Int) :: r := by
  induction n with
  | zero => omega
  | succ n ih =>
    by_cases e : k = n
    · subst e
      exact ⟨[], by rw [nearL_in h1, nearL_none h2]; rfl⟩
    · obtain ⟨r, hr⟩ := ih (by omega)
      by_cases h : f n ≤ most
      · exact ⟨r ++ [(n : Int)], by rw [nearL_in h, hr]; rfl⟩
      · exact ⟨r, by rw [nearL_out h, hr]⟩
theorem nearL_best {n : Nat} (hn : 0 < n) (f : Nat → Int) : ∃ r, nearL n f (f (bestI f n)) = (bestI f n : Int) :: r := by
  obtain ⟨h1, h2, h3⟩ := bestI_spec f n hn
  exact nearL_first h1 (Int.le_refl _) h3
theorem nearL_less {n : Nat} (hn : 0 < n) (f : Nat → Int) : nearL n f (f (bestI f n) - 1) = [] := by
  obtain ⟨h1, h2, h3⟩ := bestI_spec f n hn
  exact nearL_none fun j hj => by have := h2 j hj; omega
theorem nearL_congr {n : Nat} {f g : Nat → Int} {most : Int} (h : ∀ j, j < n → f j = g j) : nearL n f most = nearL n g most := by
  unfold nearL
  congr 1
  exact List.filter_congr fun j hj => by rw [h j (List.mem_range.1 hj)]
/-- the sum of the first numbers -/
def sumN (f : Nat → Int) : Nat → Int
  | 0 => 0
  | n + 1 => sumN f n + f n
theorem sumN_congr {f g : Nat → Int} : ∀ n, (∀ j, j < n → f j = g j) → sumN f n = sumN g n := by
  intro n
  induction n with
  | zero => intro _; rfl
  | succ n ih => intro h; unfold sumN; rw [ih fun j hj => h j (by omega), h n (by omega)]
theorem sumN_range {f : Nat → Int} {b : Int} : ∀ n, (∀ j, j < n → 0 ≤ f j ∧ f j ≤ b) → 0 ≤ sumN f n ∧ sumN f n ≤ n * b := by
  intro n
  induction n with
  | zero => intro _; unfold sumN; omega
  | succ n ih =>
    intro h
    have h1 := ih fun j hj => h j (by omega)
    have h2 := h n (by omega)
    unfold sumN
    have h3 : ((n + 1 : Nat) : Int) * b = (n : Int) * b + b := by rw [Int.natCast_succ, Int.add_mul, Int.one_mul]
    omega
end Go.Proofs.YtmhlgnhfbickdaaDoor
