/-
  Arguments opened: lists of numbers, lists of strings, tables, as they came in. Conditions: none.
-/
import Derived.SliceStrings
import Derived.Deep.Matrix
import Derived.Test.YtmhlgnhfbickdaaDoorOpenP
import Derived.Test.YtmhlgnhfbickdaaDoorMem
import Derived.Test.YtmhlgnhfbickdaaDoorP11
namespace Go.Proofs.YtmhlgnhfbickdaaDoor
set_option linter.unusedVariables false
set_option linter.unusedSimpArgs false
open Go.ChangeShapes Go.WideShapes Go.ChangeAt Go.RowKit Go.Deep

theorem addr_add_spot {a : Addr} {k : Nat} {w : World} {v : Value} (h : w.cell? (a.add k) = some v) (hs : a.spot = none) : w.cell? ⟨a.block, a.off + k, none⟩ = some v := by
  obtain ⟨b, o, s⟩ := a
  subst hs
  by_cases hk : k = 0
  · subst hk; simpa [Addr.add] using h
  · simpa [Addr.add, hk] using h
theorem spot_of {a : Addr} {w : World} {v : Value} (h : w.cell? (a.add 0) = some v) : a.spot = none := by
  have := World.cell?_spot h
  simpa [Addr.add] using this
section
variable {H : Type} {enc : TypeId × Value → H} {W : World}
theorem open_intlist {a : Option Addr} {len cap : Nat} {d : DataW H} {p : List MemPlace} (h : DataW.Trod enc Tryd.prog W 0 (fun _ => true) true 25 (.slice a len cap) d p) (hlt : ∀ x ∈ p, x.block < W.heap.size) :
    ∃ f, HoursAt W a len f := by
  obtain ⟨fuel, hf⟩ := h
  rcases open_ints Tryd.underlying25 Tryd.underlying3 (by kernel_rfl) hf with ⟨hcs, _⟩ | ⟨x, l, c, zs, hcs, _, hl, hm, hz, hx, hcell, hwz⟩
  · simp [Value.cells] at hcs
    obtain ⟨rfl, rfl, rfl⟩ := hcs
    exact ⟨fun _ => 0, by omega, 0, 0, by omega, by omega, by omega⟩
  · simp [Value.cells] at hcs
    obtain ⟨rfl, rfl, rfl⟩ := hcs
    unfold maxLen at hm
    have hzl : zs.length = cap := by simpa using hz
    refine ⟨fun i => zs.getD i 0, by omega, x.block, x.off, fun h0 => ?_, fun h0 => ?_, fun i hi => ?_⟩
    · have hmem : (MemPlace.cell x.block x.off) ∈ MemPlace.row x cap := by
        simp only [MemPlace.row, List.mem_map, List.mem_range]
        exact ⟨0, by omega, by simp⟩
      simp only [Prod.mk.injEq] at hx
      obtain ⟨_, rfl⟩ := hx
      rw [← hzl] at hmem
      exact hlt (MemPlace.cell x.block x.off) hmem
    · have := spot_of (hcell 0 (by omega))
      obtain ⟨b, o, s⟩ := x
      subst this
      rfl
    · have hs := spot_of (hcell 0 (by omega))
      exact addr_add_spot (hcell i (by omega)) hs
theorem open_stringlist {a : Option Addr} {len cap : Nat} {d : DataW H} {p : List MemPlace} (h : DataW.Trod enc Tryd.prog W 0 (fun _ => true) true 22 (.slice a len cap) d p) (hlt : ∀ x ∈ p, x.block < W.heap.size) :
    ∃ ss, StrsAt W a len ss := by
  obtain ⟨fuel, hf⟩ := h
  rcases open_strings Tryd.underlying22 Tryd.underlying9 (by kernel_rfl) hf with ⟨hcs, _⟩ | ⟨x, l, c, zs, hcs, _, hl, hm, hz, hx, hcell, hwz⟩
  · simp [Value.cells] at hcs
    obtain ⟨rfl, rfl, rfl⟩ := hcs
    exact ⟨fun _ => ByteArray.empty, by omega, 0, 0, by omega, by omega, by omega⟩
  · simp [Value.cells] at hcs
    obtain ⟨rfl, rfl, rfl⟩ := hcs
    unfold maxLen at hm hwz
    have hzl : zs.length = cap := by simpa using hz
    refine ⟨fun i => zs.getD i ByteArray.empty, by omega, x.block, x.off, fun h0 => ?_, fun h0 => ?_, fun i hi => ⟨?_, ?_⟩⟩
    · have hmem : (MemPlace.cell x.block x.off) ∈ MemPlace.row x cap := by
        simp only [MemPlace.row, List.mem_map, List.mem_range]
        exact ⟨0, by omega, by simp⟩
      simp only [Prod.mk.injEq] at hx
      obtain ⟨_, rfl⟩ := hx
      rw [← hzl] at hmem
      exact hlt (MemPlace.cell x.block x.off) hmem
    · have := spot_of (hcell 0 (by omega))
      obtain ⟨b, o, s⟩ := x
      subst this
      rfl
    · have hs := spot_of (hcell 0 (by omega))
      exact addr_add_spot (hcell i (by omega)) hs
    · have hi' : i < zs.length := by omega
      have : zs.getD i ByteArray.empty ∈ zs := by rw [List.getD_eq_getElem?_getD, List.getElem?_eq_getElem hi']; exact List.getElem_mem hi'
      exact hwz _ this
theorem open_table {a : Option Addr} {len cap : Nat} {d : DataW H} {p : List MemPlace} (h : DataW.Trod enc Tryd.prog W 0 (fun _ => true) true 26 (.slice a len cap) d p) (hlt : ∀ x ∈ p, x.block < W.heap.size) :
    ∃ m f, TabAt W a len m f := by
  obtain ⟨fuel, hf⟩ := h
  rcases open_int_rows Tryd.underlying26 Tryd.underlying25 Tryd.underlying3 (by kernel_rfl) (by kernel_rfl) hf with ⟨hcs, _⟩ | ⟨x, l, c, A, L, C, Z, hcs, _, hl, hm, hx, hcell⟩
  · simp [Value.cells] at hcs
    obtain ⟨rfl, rfl, rfl⟩ := hcs
    exact ⟨fun _ => 0, fun _ _ => 0, by omega, 0, 0, by omega, by omega, by omega⟩
  · simp [Value.cells] at hcs
    obtain ⟨rfl, rfl, rfl⟩ := hcs
    unfold maxLen at hm
    simp only [Prod.mk.injEq] at hx
    obtain ⟨_, rfl⟩ := hx
    refine ⟨L, fun i j => (Z i).getD j 0, by omega, x.block, x.off, fun h0 => ?_, fun h0 => ?_, fun i hi => ?_⟩
    · have hmem : (MemPlace.cell x.block x.off) ∈ MemPlace.row x cap := by
        simp only [MemPlace.row, List.mem_map, List.mem_range]
        exact ⟨0, by omega, by simp⟩
      exact hlt _ (List.mem_append.2 (.inl hmem))
    · have := spot_of (hcell 0 (by omega)).1
      obtain ⟨b, o, s⟩ := x
      subst this
      rfl
    · have hs := spot_of (hcell 0 (by omega)).1
      obtain ⟨h1, h2, h3, h4, h5, h6, h7⟩ := hcell i (by omega)
      unfold maxLen at h3
      refine ⟨A i, C i, addr_add_spot h1 hs, by omega, ?_⟩
      cases hA : A i with
      | none =>
        have := h6 hA
        exact ⟨0, 0, by omega, by omega, by omega⟩
      | some y =>
        have h8 := (h7 y hA).2
        refine ⟨y.block, y.off, fun h0 => ?_, fun h0 => ?_, fun j hj => ?_⟩
        · have hmem : (MemPlace.cell y.block y.off) ∈ intRowPlaces (A i) (Z i) := by
            unfold intRowPlaces
            rw [hA]
            simp only [MemPlace.row, List.mem_map, List.mem_range]
            exact ⟨0, by omega, by simp⟩
          exact hlt _ (List.mem_append.2 (.inr (List.mem_flatMap.2 ⟨i, List.mem_range.2 (by omega), hmem⟩)))
        · have := spot_of (h8 0 (by omega))
          obtain ⟨b, o, s⟩ := y
          subst this
          rfl
        · exact addr_add_spot (h8 j (by omega)) (spot_of (h8 0 (by omega)))
end
end Go.Proofs.YtmhlgnhfbickdaaDoor
