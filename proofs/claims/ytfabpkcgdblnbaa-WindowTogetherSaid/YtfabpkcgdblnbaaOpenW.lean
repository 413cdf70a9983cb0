/-
  Arguments opened: what a window that came in looks like in memory. Conditions: none.
-/
import Derived.Test.YtfabpkcgdblnbaaOpen
import Derived.Test.YtfabpkcgdblnbaaWm
namespace Go.Proofs.Ytfabpkcgdblnbaa
set_option linter.unusedVariables false
set_option linter.unusedSimpArgs false
open Go.ChangeShapes Go.WideShapes Go.ChangeAt Go.RowKit Go.Deep Go.Joins

section
variable {H : Type} {enc : TypeId × Value → H} {W : World}
theorem hours_of_trod {fuel : Nat} {v : Value} {y : DataW H × List MemPlace} (hf : DataW.trod enc Try.prog W 0 (fun _ => true) true fuel 38 [v] = some y) (hlt : ∀ x ∈ y.2, x.block < W.heap.size) :
    ∃ a len cap h, v = .slice a len cap ∧ HoursAt W a len h := by
  rcases open_ints Try.underlying38 Try.underlying3 (by kernel_rfl) hf with ⟨hcs, _⟩ | ⟨x, l, c, zs, hcs, _, hl, hm, hz, hx, hcell, hwz⟩
  · simp at hcs
    subst hcs
    exact ⟨none, 0, 0, fun _ => 0, rfl, by omega, 0, 0, by omega, by omega, by omega⟩
  · simp at hcs
    subst hcs
    unfold maxLen at hm
    have hzl : zs.length = c := by simpa using hz
    refine ⟨some x, l, c, fun i => zs.getD i 0, rfl, by omega, x.block, x.off, fun h0 => ?_, fun h0 => ?_, fun i hi => ?_⟩
    · have hmem : (MemPlace.cell x.block x.off) ∈ MemPlace.row x c := by
        simp only [MemPlace.row, List.mem_map, List.mem_range]
        exact ⟨0, by omega, by simp⟩
      subst hx
      rw [← hzl] at hmem
      exact hlt (MemPlace.cell x.block x.off) hmem
    · have := spot_of (hcell 0 (by omega))
      obtain ⟨b, o, s⟩ := x
      subst this
      rfl
    · have hs := spot_of (hcell 0 (by omega))
      exact addr_add_spot (hcell i (by omega)) hs
set_option maxRecDepth 100000 in
theorem open_window {v : Value} {d : DataW H} {p : List MemPlace} (hv : Value.okWide Try.prog W .any 0 40 v) (h : DataW.Trod enc Try.prog W 0 (fun _ => true) true 40 v d p) (hlt : ∀ x ∈ p, x.block < W.heap.size) :
    ∃ P a len cap hs, v = .agg #[.int .i64 P, .slice a len cap] ∧ HoursAt W a len hs := by
  obtain ⟨v0, v1, y0, y1, n, rfl, rfl, rfl, h0, h1⟩ := open_agg2 Try.underlying40 (by kernel_rfl) (by kernel_rfl) hv h
  obtain ⟨P, e0, _, _⟩ := DataW.trod_int Try.underlying3 h0
  obtain ⟨a, len, cap, hs, rfl, hh⟩ := hours_of_trod h1 (fun x hx => hlt x (List.mem_append.2 (.inr hx)))
  simp at e0
  subst e0
  exact ⟨P, a, len, cap, hs, rfl, hh⟩
end
end Go.Proofs.Ytfabpkcgdblnbaa
