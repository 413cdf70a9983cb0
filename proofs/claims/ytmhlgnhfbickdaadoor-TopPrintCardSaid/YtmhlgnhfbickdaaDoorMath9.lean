/-
  Plain laws: the first place of the least number of a list; those of several prints that are near, and sums of distances. Conditions: stated at each.
-/
import Derived.Lib.Slices
namespace Go.Proofs.YtmhlgnhfbickdaaDoor
set_option linter.unusedVariables false
set_option linter.unusedSimpArgs false

/-- the first place of the least of the first n numbers -/
def bestI (f : Nat → Int) : Nat → Nat
  | 0 => 0
  | n + 1 => if f n < f (bestI f n) then n else bestI f n
theorem bestI_one (f : Nat → Int) : bestI f 1 = 0 := by unfold bestI; rw [if_neg (by show ¬ f 0 < f 0; omega)]; rfl
theorem bestI_succ (f : Nat → Int) (n : Nat) : bestI f (n + 1) = if f n < f (bestI f n) then n else bestI f n := rfl
theorem bestI_spec (f : Nat → Int) : ∀ n, 0 < n → bestI f n < n ∧ (∀ j, j < n → f (bestI f n) ≤ f j) ∧ ∀ j, j < bestI f n → f (bestI f n) < f j := by
  intro n
  induction n with
  | zero => omega
  | succ n ih =>
    intro _
    by_cases h0 : n = 0
    · subst h0
      rw [bestI_one]
      exact ⟨by omega, fun j hj => by rw [show j = 0 by omega]; exact Int.le_refl _, fun j hj => by omega⟩
    · obtain ⟨h1, h2, h3⟩ := ih (by omega)
      rw [bestI_succ]
      split
      · rename_i hlt
        refine ⟨by omega, fun j hj => ?_, fun j hj => ?_⟩
        · by_cases e : j = n
          · subst e; exact Int.le_refl _
          · have := h2 j (by omega); omega
        · have := h2 j hj; omega
      · rename_i hlt
        refine ⟨by omega, fun j hj => ?_, h3⟩
        by_cases e : j = n
        · subst e; omega
        · exact h2 j (by omega)
theorem bestI_congr {f g : Nat → Int} : ∀ n, (∀ j, j < n → f j = g j) → bestI f n = bestI g n := by
  intro n
  induction n with
  | zero => intro _; rfl
  | succ n ih =>
    intro h
    by_cases h0 : n = 0
    · subst h0; rw [bestI_one, bestI_one]
    · have e := ih fun j hj => h j (by omega)
      have h1 := (bestI_spec f n (by omega)).1
      rw [bestI_succ, bestI_succ, h n (by omega), e, h (bestI g n) (by rw [← e]; omega)]
theorem minOf_best (zs : List Int) : ∀ n, 0 < n → n ≤ zs.length → Lib.minOf (zs.take n) = zs.getD (bestI (fun i => zs.getD i 0) n) 0 := by
  intro n
  induction n with
  | zero => omega
  | succ n ih =>
    intro _ hz
    by_cases h0 : n = 0
    · subst h0; rw [bestI_one, Lib.minOf_one]
    · rw [Lib.minOf_step _ _ (by omega) (by omega), ih (by omega) (by omega), bestI_succ]
      split <;> omega
theorem idxOf_best (zs : List Int) {n : Nat} (hn : 0 < n) (hz : n ≤ zs.length) : Lib.idxOf (zs.take n) (zs.getD (bestI (fun i => zs.getD i 0) n) 0) = (bestI (fun i => zs.getD i 0) n : Nat) := by
  obtain ⟨h1, h2, h3⟩ := bestI_spec (fun i => zs.getD i 0) n hn
  exact Lib.idxOf_hit zs n _ _ h1 hz rfl fun j hj he => by
    have := h3 j hj
    omega
/-- the places whose number is at most so much -/
def nearL (n : Nat) (f : Nat → Int) (most : Int) : List Int := ((List.range n).filter fun i => decide (f i ≤ most)).map fun (i : Nat) => (i : Int)
theorem nearL_zero (f : Nat → Int) (most : Int) : nearL 0 f most = [] := rfl
theorem nearL_in {n : Nat} {f : Nat → Int} {most : Int} (h : f n ≤ most) : nearL (n + 1) f most = nearL n f most ++ [(n : Int)] := by
  unfold nearL
  rw [List.range_succ, List.filter_append, List.map_append]
  simp [h]
theorem nearL_out {n : Nat} {f : Nat → Int} {most : Int} (h : ¬ f n ≤ most) : nearL (n + 1) f most = nearL n f most := by
  unfold nearL
  rw [List.range_succ, List.filter_append, List.map_append]
  simp [h]
theorem nearL_len (n : Nat) (f : Nat → Int) (most : Int) : (nearL n f most).length ≤ n := by
  unfold nearL
  rw [List.length_map]
  exact Nat.le_trans (List.length_filter_le _ _) (by simp)
theorem nearL_none {n : Nat} {f : Nat → Int} {most : Int} (h : ∀ j, j < n → most < f j) : nearL n f most = [] := by
  induction n with
  | zero => rfl
  | succ n ih => rw [nearL_out (by have := h n (by omega); omega)]; exact ih fun j hj => h j (by omega)
theorem nearL_first {n k : Nat} {f : Nat → Int} {most : Int} (hk : k < n) (h1 : f k ≤ most) (h2 : ∀ j, j < k → most < f j) : ∃ r, nearL n f most = (k : Int) :: r := by
  induction n with
  | zero => omega
  | succ n ih =>
    by_cases e : k = n
    · subst e
      exact ⟨[], by rw [nearL_in h1, nearL_none h2]; rfl⟩
    · obtain ⟨r, hr⟩ := ih (by omega)
      by_cases h : f n ≤ most
      · exact ⟨r ++ [(n : Int)], by rw [nearL_in h, hr]; rfl⟩
      · exact ⟨r, by rw [nearL_out h, hr]⟩
theorem nearL_best {n : Nat} (hn : 0 < n) (f : Nat → Int) : ∃ r, nearL n f (f (bestI f n)) = (bestI f n : Int) :: r := by
  obtain ⟨h1, h2, h3⟩ := bestI_spec f n hn
  exact nearL_first h1 (Int.le_refl _) h3
theorem nearL_less {n : Nat} (hn : 0 < n) (f : Nat → Int) : nearL n f (f (bestI f n) - 1) = [] := by
  obtain ⟨h1, h2, h3⟩ := bestI_spec f n hn
  exact nearL_none fun j hj => by have := h2 j hj; omega
theorem nearL_congr {n : Nat} {f g : Nat → Int} {most : Int} (h : ∀ j, j < n → f j = g j) : nearL n f most = nearL n g most := by
  unfold nearL
  congr 1
  exact List.filter_congr fun j hj => by rw [h j (List.mem_range.1 hj)]
/-- the sum of the first numbers -/
def sumN (f : Nat → Int) : Nat → Int
  | 0 => 0
  | n + 1 => sumN f n + f n
theorem sumN_congr {f g : Nat → Int} : ∀ n, (∀ j, j < n → f j = g j) → sumN f n = sumN g n := by
  intro n
  induction n with
  | zero => intro _; rfl
  | succ n ih => intro h; unfold sumN; rw [ih fun j hj => h j (by omega), h n (by omega)]
theorem sumN_range {f : Nat → Int} {b : Int} : ∀ n, (∀ j, j < n → 0 ≤ f j ∧ f j ≤ b) → 0 ≤ sumN f n ∧ sumN f n ≤ n * b := by
  intro n
  induction n with
  | zero => intro _; unfold sumN; omega
  | succ n ih =>
    intro h
    have h1 := ih fun j hj => h j (by omega)
    have h2 := h n (by omega)
    unfold sumN
    have h3 : ((n + 1 : Nat) : Int) * b = (n : Int) * b + b := by rw [Int.natCast_succ, Int.add_mul, Int.one_mul]
    omega
end Go.Proofs.YtmhlgnhfbickdaaDoor
