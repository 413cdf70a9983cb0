/-
  Plain laws: the first place of the least number of a list, as both tell it. Conditions: the list is not empty.
-/
import Derived.Lib.Slices
namespace Go.Proofs.YtmhlgnhfbickdaaDoor
set_option linter.unusedVariables false
set_option linter.unusedSimpArgs false

/-- the first place of the least of the first n numbers -/
def bestI (f : Nat → Int) : Nat → Nat
  | 0 => 0
  | n + 1 => if f n < f (bestI f n) then n else bestI f n
theorem bestI_one (f : Nat → Int) : bestI f 1 = 0 := by unfold bestI; rw [if_neg (by show ¬ f 0 < f 0; omega)]; rfl
theorem bestI_succ (f : Nat → Int) (n : Nat) : bestI f (n + 1) = if f n < f (bestI f n) then n else bestI f n := rfl
theorem bestI_spec (f : Nat → Int) : ∀ n, 0 < n → bestI f n < n ∧ (∀ j, j < n → f (bestI f n) ≤ f j) ∧ ∀ j, j < bestI f n → f (bestI f n) < f j := by
  intro n
  induction n with
  | zero => omega
  | succ n ih =>
    intro _
    by_cases h0 : n = 0
    · subst h0
      rw [bestI_one]
      exact ⟨by omega, fun j hj => by rw [show j = 0 by omega]; exact Int.le_refl _, fun j hj => by omega⟩
    · obtain ⟨h1, h2, h3⟩ := ih (by omega)
      rw [bestI_succ]
      split
      · rename_i hlt
        refine ⟨by omega, fun j hj => ?_, fun j hj => ?_⟩
        · by_cases e : j = n
          · subst e; exact Int.le_refl _
          · have := h2 j (by omega); omega
        · have := h2 j hj; omega
      · rename_i hlt
        refine ⟨by omega, fun j hj => ?_, h3⟩
        by_cases e : j = n
        · subst e; omega
        · exact h2 j (by omega)
theorem bestI_congr {f g : Nat → Int} : ∀ n, (∀ j, j < n → f j = g j) → bestI f n = bestI g n := by
  intro n
  induction n with
  | zero => intro _; rfl
  | succ n ih =>
    intro h
    by_cases h0 : n = 0
    · subst h0; rw [bestI_one, bestI_one]
    · have e := ih fun j hj => h j (by omega)
      have h1 := (bestI_spec f n (by omega)).1
      rw [bestI_succ, bestI_succ, h n (by omega), e, h (bestI g n) (by rw [← e]; omega)]
theorem minOf_best (zs : List Int) : ∀ n, 0 < n → n ≤ zs.length → Lib.minOf (zs.take n) = zs.getD (bestI (fun i => zs.getD i 0) n) 0 := by
  intro n
  induction n with
  | zero => omega
  | succ n ih =>
    intro _ hz
    by_cases h0 : n = 0
    · subst h0; rw [bestI_one, Lib.minOf_one]
    · rw [Lib.minOf_step _ _ (by omega) (by omega), ih (by omega) (by omega), bestI_succ]
      split <;> omega
theorem idxOf_best (zs : List Int) {n : Nat} (hn : 0 < n) (hz : n ≤ zs.length) : Lib.idxOf (zs.take n) (zs.getD (bestI (fun i => zs.getD i 0) n) 0) = (bestI (fun i => zs.getD i 0) n : Nat) := by
  obtain ⟨h1, h2, h3⟩ := bestI_spec (fun i => zs.getD i 0) n hn
  exact Lib.idxOf_hit zs n _ _ h1 hz rfl fun j hj he => by
    have := h3 j hj
    omega
end Go.Proofs.YtmhlgnhfbickdaaDoor
