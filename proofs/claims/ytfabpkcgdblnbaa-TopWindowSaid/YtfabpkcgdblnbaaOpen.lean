/-
  Arguments opened: what a slice of rounds, a window, a slice of windows that came in look like in memory. Conditions: none.
-/
import Derived.Test.YtfabpkcgdblnbaaR1
import Derived.Test.YtfabpkcgdblnbaaRows
import Derived.ProofKit
import Derived.OpenShut
import Derived.ChangeOld
import Derived.Deep.Slices
import Derived.Deep.SlicePairs
import Derived.Lib.SmallJoins
namespace Go.Proofs.Ytfabpkcgdblnbaa
set_option linter.unusedVariables false
set_option linter.unusedSimpArgs false
open Go.ChangeShapes Go.WideShapes Go.ChangeAt Go.RowKit Go.Deep

theorem own : ownKnob Try.prog.godebug = none := by kernel_rfl
theorem laidOut : laidOutB Try.prog = true := by kernel_rfl

section
variable {H : Type} {enc : TypeId × Value → H} {W : World}
theorem addr_add_spot {a : Addr} {k : Nat} {w : World} {v : Value} (h : w.cell? (a.add k) = some v) (hs : a.spot = none) : w.cell? ⟨a.block, a.off + k, none⟩ = some v := by
  obtain ⟨b, o, s⟩ := a
  subst hs
  by_cases hk : k = 0
  · subst hk; simpa [Addr.add] using h
  · simpa [Addr.add, hk] using h
theorem spot_of {a : Addr} {w : World} {v : Value} (h : w.cell? (a.add 0) = some v) : a.spot = none := by
  have := World.cell?_spot h
  simpa [Addr.add] using this
theorem open_rounds {a : Option Addr} {len cap : Nat} {d : DataW H} {p : List MemPlace} (h : DataW.Trod enc Try.prog W 0 (fun _ => true) true 22 (.slice a len cap) d p) (hlt : ∀ x ∈ p, x.block < W.heap.size) :
    ∃ ra re, RoundsAt W a len ra re := by
  obtain ⟨fuel, hf⟩ := h
  rcases open_slice_pairs Try.underlying22 Try.underlying36 (by kernel_rfl) rfl rfl (by kernel_rfl) (by kernel_rfl) hf with ⟨hcs, _⟩ | ⟨x, l, c, m, n, V0, V1, D0, D1, P0, P1, hcs, _, hl, hm, hmm, hx, hcell⟩
  · simp [Value.cells] at hcs
    obtain ⟨rfl, rfl, rfl⟩ := hcs
    exact ⟨fun _ => 0, fun _ => 0, by omega, 0, 0, by omega, by omega, by omega⟩
  · simp [Value.cells] at hcs
    obtain ⟨rfl, rfl, rfl⟩ := hcs
    have hmc : m = cap := by simpa using hmm
    subst hmc
    unfold maxLen at hm
    refine ⟨fun i => intOf (V0 i), fun i => intOf (V1 i), by omega, x.block, x.off, fun h0 => ?_, fun h0 => ?_, fun i hi => ?_⟩
    · simp only [Prod.mk.injEq] at hx
      obtain ⟨_, rfl⟩ := hx
      have hmem : (MemPlace.cell x.block x.off) ∈ MemPlace.row x (m * 2) := by
        simp only [MemPlace.row, List.mem_map, List.mem_range]
        exact ⟨0, by omega, by simp⟩
      exact hlt _ (List.mem_append.2 (.inl hmem))
    · have := spot_of (by simpa using (hcell 0 (by omega)).1)
      obtain ⟨b, o, s⟩ := x
      subst this
      rfl
    · have hs := spot_of (by simpa using (hcell 0 (by omega)).1)
      obtain ⟨c0, c1, t0, t1⟩ := hcell i (by omega)
      obtain ⟨z0, e0, _, _⟩ := DataW.trod_int Try.underlying3 t0
      obtain ⟨z1, e1, _, _⟩ := DataW.trod_int Try.underlying3 t1
      simp at e0 e1
      refine ⟨?_, ?_⟩
      · rw [addr_add_spot c0 hs]; simp [e0, intOf]
      · have := addr_add_spot c1 hs
        rw [show x.off + i * 2 + 1 = x.off + (i * 2 + 1) from by omega, this]; simp [e1, intOf]
end
end Go.Proofs.Ytfabpkcgdblnbaa
