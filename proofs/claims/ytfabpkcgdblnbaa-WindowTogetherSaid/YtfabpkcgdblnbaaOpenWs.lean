/-
  Arguments opened: what a slice of windows that came in looks like in memory. Conditions: none.
-/
import Derived.Test.YtfabpkcgdblnbaaOpenW
import Derived.Test.YtfabpkcgdblnbaaV16
namespace Go.Proofs.Ytfabpkcgdblnbaa
set_option linter.unusedVariables false
set_option linter.unusedSimpArgs false
open Go.ChangeShapes Go.WideShapes Go.ChangeAt Go.RowKit Go.Deep Go.Joins

section
variable {H : Type} {enc : TypeId × Value → H} {W : World}
theorem open_windows {a : Option Addr} {len cap : Nat} {d : DataW H} {p : List MemPlace} (h : DataW.Trod enc Try.prog W 0 (fun _ => true) true 58 (.slice a len cap) d p) (hlt : ∀ x ∈ p, x.block < W.heap.size) :
    ∃ wp wa wn wc wh, WinsAt W a len wp wa wn wc wh := by
  obtain ⟨fuel, hf⟩ := h
  rcases open_slice_pairs Try.underlying58 Try.underlying40 (by kernel_rfl) rfl rfl (by kernel_rfl) (by kernel_rfl) hf with ⟨hcs, _⟩ | ⟨x, l, c, m, n, V0, V1, D0, D1, P0, P1, hcs, _, hl, hm, hmm, hx, hcell⟩
  · simp [Value.cells] at hcs
    obtain ⟨rfl, rfl, rfl⟩ := hcs
    exact ⟨fun _ => 0, fun _ => none, fun _ => 0, fun _ => 0, fun _ _ => 0, by omega, 0, 0, by omega, by omega, by omega⟩
  · simp [Value.cells] at hcs
    obtain ⟨rfl, rfl, rfl⟩ := hcs
    have hmc : m = cap := by simpa using hmm
    subst hmc
    unfold maxLen at hm
    have hsp : 0 < m → x.spot = none := fun h0 => spot_of (by simpa using (hcell 0 h0).1)
    have hbl : 0 < m → x.block < W.heap.size := fun h0 => by
      simp only [Prod.mk.injEq] at hx
      obtain ⟨_, rfl⟩ := hx
      have hmem : (MemPlace.cell x.block x.off) ∈ MemPlace.row x (m * 2) := by
        simp only [MemPlace.row, List.mem_map, List.mem_range]
        exact ⟨0, by omega, by simp⟩
      exact hlt _ (List.mem_append.2 (.inl hmem))
    have each : ∀ i, ∃ q : Int × Option Addr × Nat × Nat × (Nat → Int), i < m →
        (W.cell? ⟨x.block, x.off + i * 2, none⟩ = some (.int .i64 q.1) ∧ W.cell? ⟨x.block, x.off + i * 2 + 1, none⟩ = some (.slice q.2.1 q.2.2.1 q.2.2.2.1)) ∧ HoursAt W q.2.1 q.2.2.1 q.2.2.2.2 := by
      intro i
      by_cases hi : i < m
      · obtain ⟨c0, c1, t0, t1⟩ := hcell i hi
        have hs := hsp (by omega)
        obtain ⟨z0, e0, _, _⟩ := DataW.trod_int Try.underlying3 t0
        simp at e0
        obtain ⟨ga, gl, gc, gh, e1, hh⟩ := hours_of_trod t1 (fun y hy => hlt y (by
          simp only [Prod.mk.injEq] at hx
          obtain ⟨_, rfl⟩ := hx
          exact List.mem_append.2 (.inr (List.mem_flatMap.2 ⟨i, List.mem_range.2 hi, List.mem_append.2 (.inr hy)⟩))))
        refine ⟨(z0, ga, gl, gc, gh), fun _ => ⟨⟨?_, ?_⟩, hh⟩⟩
        · rw [addr_add_spot c0 hs, e0]
        · have := addr_add_spot c1 hs
          rw [show x.off + i * 2 + 1 = x.off + (i * 2 + 1) from by omega, this, e1]
      · exact ⟨(0, none, 0, 0, fun _ => 0), fun h => absurd h hi⟩
    refine ⟨fun i => (each i).choose.1, fun i => (each i).choose.2.1, fun i => (each i).choose.2.2.1, fun i => (each i).choose.2.2.2.1, fun i => (each i).choose.2.2.2.2, by omega, x.block, x.off, fun h0 => hbl (by omega), fun h0 => ?_, fun i hi => (each i).choose_spec (by omega)⟩
    have := hsp (by omega)
    obtain ⟨b, o, s⟩ := x
    subst this
    rfl
end
end Go.Proofs.Ytfabpkcgdblnbaa
