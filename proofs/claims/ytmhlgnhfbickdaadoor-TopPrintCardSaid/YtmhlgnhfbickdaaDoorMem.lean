/-
  Lists of numbers and tables in memory, read as lists. Conditions: none.
-/
import Derived.Test.YtmhlgnhfbickdaaDoorBase
namespace Go.Proofs.YtmhlgnhfbickdaaDoor
set_option linter.unusedVariables false
set_option linter.unusedSimpArgs false
open Go.RowKit

/-- a slice that reads as a list of numbers -/
def IntsV (w : World) (v : Value) (l : List Int) : Prop := ∃ A cap, v = .slice A l.length cap ∧ HoursAt w A l.length (fun i => l.getD i 0)
theorem IntsV.below {w w' : World} {v : Value} {l : List Int} (h : IntsV w v l) (hb : Below w.heap.size w w') : IntsV w' v l := by
  obtain ⟨A, cap, rfl, hh⟩ := h
  exact ⟨A, cap, rfl, hh.below hb⟩
theorem IntsV.nil (w : World) : IntsV w (.slice none 0 0) [] := ⟨none, 0, rfl, by simp, 0, 0, by simp, by simp, by simp⟩
theorem IntsV.own {w : World} {base k : Nat} {v : Value} {l : List Int} (h : w.ownsRow base 3 1 v k (l.map (Value.int .i64))) (hk : k = l.length) (hl : l.length ≤ 9223372036854775807) : IntsV w v l := by
  subst hk
  rcases h.2 with ⟨rfl, h0⟩ | ⟨g, cap, cur, rfl, hb, hg, hc⟩
  · have : l = [] := List.eq_nil_of_length_eq_zero h0
    subst this
    exact IntsV.nil w
  · have hlt : g < w.heap.size := by
      rcases Nat.lt_or_ge g w.heap.size with h | h
      · exact h
      · rw [Array.getElem?_eq_none h] at hg; cases hg
    refine ⟨_, cap, rfl, hl, g, 0, fun _ => hlt, fun _ => rfl, fun i hi => ?_⟩
    have h1 := h.cells (g := g) rfl i (.int .i64 (l.getD i 0)) (by simp [hi])
    have e : (⟨g, 0, none⟩ : Addr).add i = ⟨g, 0 + i, none⟩ := by
      unfold Addr.add
      split
      · rename_i h0; subst h0; rfl
      · rfl
    rw [e] at h1
    exact h1
/-- what HoursAt tells, as a list -/
theorem IntsV.of_hours {w : World} {A : Option Addr} {n cap : Nat} {h : Nat → Int} (hh : HoursAt w A n h) : IntsV w (.slice A n cap) ((List.range n).map h) := by
  refine ⟨A, cap, by simp, ?_⟩
  obtain ⟨hn, b, off, h1, h2, h3⟩ := hh
  refine ⟨by simpa using hn, b, off, fun h0 => h1 (by simpa using h0), fun h0 => h2 (by simpa using h0), fun i hi => ?_⟩
  have hi' : i < n := by simpa using hi
  rw [h3 i hi']
  simp [hi']

/-- a table in memory: n rows, row i has m i numbers -/
def TabAt (w : World) (A : Option Addr) (n : Nat) (m : Nat → Nat) (f : Nat → Nat → Int) : Prop :=
  n ≤ 9223372036854775807 ∧ ∃ b off, (0 < n → b < w.heap.size) ∧ (0 < n → A = some ⟨b, off, none⟩) ∧ ∀ i, i < n → ∃ Ai ci, w.cell? ⟨b, off + i, none⟩ = some (.slice Ai (m i) ci) ∧ HoursAt w Ai (m i) (f i)
theorem TabAt.below {w w' : World} {A : Option Addr} {n : Nat} {m : Nat → Nat} {f : Nat → Nat → Int} (hh : TabAt w A n m f) (hb : Below w.heap.size w w') : TabAt w' A n m f := by
  obtain ⟨hn, b, off, hlt, hA, hc⟩ := hh
  refine ⟨hn, b, off, fun h => Nat.lt_of_lt_of_le (hlt h) hb.size, hA, fun i hi => ?_⟩
  obtain ⟨Ai, ci, h1, h2⟩ := hc i hi
  exact ⟨Ai, ci, (hb.cell (p := ⟨b, off + i, none⟩) (hlt (by omega))).trans h1, h2.below hb⟩
end Go.Proofs.YtmhlgnhfbickdaaDoor
