/-
  slices.Reverse of bytes; a pair the other way round. Conditions: stated at each.
-/
import Derived.Laws.BytesArg
import Derived.Laws.IdiomStrings
import Derived.Test.YtmhlgnhfbickdaaDoorP29
import Derived.Test.YtmhlgnhfbickdaaDoorP25
namespace Go.Proofs.YtmhlgnhfbickdaaDoor
set_option linter.unusedVariables false
set_option linter.unusedSimpArgs false
open Go.RowKit Go.Shelf

/-- the bytes behind k exchanges -/
def hrev (n : Nat) (f : Nat → Int) (k : Nat) : Nat → Int := fun j => if j < k ∨ n ≤ j + k then f (n - 1 - j) else f j
theorem hrev_zero {n : Nat} {f : Nat → Int} {j : Nat} (h : j < n) : hrev n f 0 j = f j := by unfold hrev; rw [if_neg (by omega)]
theorem hrev_end {n k m : Nat} {f : Nat → Int} {j : Nat} (h : j < n) (hk : k + m + 1 = n) (hkm : m ≤ k) : hrev n f k j = f (n - 1 - j) := by
  unfold hrev
  by_cases e : j < k ∨ n ≤ j + k
  · rw [if_pos e]
  · rw [if_neg e, show n - 1 - j = j by omega]
theorem hrev_succ {n k m : Nat} {f : Nat → Int} {j : Nat} (hk : k + m + 1 = n) (hkm : k < m) (h : j < n) : hrev n f (k + 1) j = if j = k then hrev n f k m else if j = m then hrev n f k k else hrev n f k j := by
  unfold hrev
  by_cases e1 : j = k
  · subst e1
    rw [if_pos (by omega), if_pos rfl, if_neg (by omega), show n - 1 - j = m by omega]
  · by_cases e2 : j = m
    · subst e2
      rw [if_pos (by omega), if_neg e1, if_pos rfl, if_neg (by omega), show n - 1 - j = k by omega]
    · rw [if_neg e1, if_neg e2]
      by_cases e3 : j < k ∨ n ≤ j + k
      · rw [if_pos e3, if_pos (by omega)]
      · rw [if_neg e3, if_neg (by omega)]
/-- n bytes in memory, that may be written -/
structure BytesW (w : World) (b n : Nat) (f : Nat → Int) : Prop where
  lt : b < w.heap.size
  cell : ∀ j, j < n → w.cell? ⟨b, j, none⟩ = some (.int .u8 (f j))
  free : ∀ j, j < n → w.frozen? ⟨b, j, none⟩ = false
def RevR (w : World) (b n : Nat) (f : Nat → Int) (e : Ending) (w' : World) : Prop := e = .returned (.tuple #[]) ∧ BytesW w' b n (fun j => f (n - 1 - j)) ∧ Below b w w'
theorem BytesW.swap {w : World} {b n k m : Nat} {f : Nat → Int} (h : BytesW w b n (hrev n f k)) (hk : k + m + 1 = n) (hkm : k < m) :
    BytesW (((w.setCell ⟨b, k, none⟩ (.int .u8 (hrev n f k m))).setCell ⟨b, m, none⟩ (.int .u8 (hrev n f k k))).drew) b n (hrev n f (k + 1)) := by
  have hk1 := h.cell k (by omega)
  have hm1 := h.cell m (by omega)
  have ne : ∀ {i j : Nat}, i ≠ j → (⟨b, i, none⟩ : Addr) ≠ ⟨b, j, none⟩ := fun hij e => hij (by injection e)
  have hm2 : (w.setCell ⟨b, k, none⟩ (.int .u8 (hrev n f k m))).cell? ⟨b, m, none⟩ = some (.int .u8 (hrev n f k m)) := (World.cell?_setCell_other _ _ _ _ (ne (by omega))).trans hm1
  refine ⟨by have := h.lt; simpa [World.setCell] using this, fun j hj => ?_, fun j hj => ?_⟩
  · show ((w.setCell ⟨b, k, none⟩ (.int .u8 (hrev n f k m))).setCell ⟨b, m, none⟩ (.int .u8 (hrev n f k k))).cell? ⟨b, j, none⟩ = _
    rw [hrev_succ hk hkm hj]
    by_cases e1 : j = k
    · subst e1
      rw [if_pos rfl]
      exact (World.cell?_setCell_other _ _ _ _ (ne (by omega))).trans (World.cell?_setCell_same _ _ _ hk1)
    · rw [if_neg e1]
      by_cases e2 : j = m
      · subst e2
        rw [if_pos rfl]
        exact World.cell?_setCell_same _ _ _ hm2
      · rw [if_neg e2]
        exact (World.cell?_setCell_other _ _ _ _ (ne (by omega))).trans ((World.cell?_setCell_other _ _ _ _ (ne (by omega))).trans (h.cell j hj))
  · show ((w.setCell ⟨b, k, none⟩ (.int .u8 (hrev n f k m))).setCell ⟨b, m, none⟩ (.int .u8 (hrev n f k k))).frozen? ⟨b, j, none⟩ = _
    rw [World.frozen?_setCell, World.frozen?_setCell]
    exact h.free j hj
set_option maxHeartbeats 2000000 in
theorem rev_any (b n cap : Nat) (f : Nat → Int) (w : World) (hn : n ≤ 20) (hB : BytesW w b n f) :
    Calls Tryd.prog 100 #[.slice (some ⟨b, 0, none⟩) n cap] w (RevR w b n f) := by
  have HB := hid hB
  clear hB
  by_cases h0 : n = 0
  · subst h0
    go_enter Tryd.func100, Tryd.ntmps100
    go_wp2
    refine wp_loop_rounds 1 ?_
    rw [rounds_succ]
    go_wp2
    go_end0
    exact ⟨rfl, ⟨HB.out.lt, fun j hj => by omega, fun j hj => by omega⟩, Below.refl _ _⟩
  · obtain ⟨m0, hm0⟩ : ∃ m0, n = m0 + 1 := ⟨n - 1, by omega⟩
    have HM0 := hid hm0
    have e0 : (n : Int) - 1 = (m0 : Int) := by omega
    clear hm0
    go_enter Tryd.func100, Tryd.ntmps100
    go_wp2
    go_loopw [2, 3] (fun x y wr => ∃ k m : Nat, k + m + 1 = n ∧ x = .int .i64 (k : Int) ∧ y = .int .i64 (m : Int) ∧ Hid (BytesW wr b n (hrev n f k)) ∧ Hid (Below b w wr)) (fun _ y _ => (intOf y).toNat)
    case atStart => exact ⟨0, m0, by have := HM0.out; omega, rfl, rfl, hid ⟨HB.out.lt, fun j hj => by rw [hrev_zero hj]; exact HB.out.cell j hj, HB.out.free⟩, hid (Below.refl _ _)⟩
    case round =>
      obtain ⟨k, m, hkm, rfl, rfl, HW, HL⟩ := hrel
      clear e0 h0
      by_cases hlt : k < m
      · have a1 := HW.out.cell k (by omega)
        have a2 := HW.out.cell m (by omega)
        have f1 := HW.out.free k (by omega)
        have f2 := HW.out.free m (by omega)
        obtain ⟨x, hx⟩ : ∃ x, hrev n f k k = x := ⟨_, rfl⟩
        obtain ⟨y, hy⟩ : ∃ y, hrev n f k m = y := ⟨_, rfl⟩
        rw [hx] at a1
        rw [hy] at a2
        have b1 : (k : Int) < (n : Int) := by omega
        have b2 : (m : Int) < (n : Int) := by omega
        have n1 : k ≠ m := by omega
        have n2 : m ≠ k := by omega
        have HSW := hid (HW.out.swap hkm hlt)
        rw [hx, hy] at HSW
        clear hx hy
        go_wp2
        go_region
        go_wp2
        go_roundw
        case rel => exact ⟨k + 1, m - 1, by omega, by go_num, by go_num, HSW, hid (bdn ((HL.out.setCell (p := ⟨b, k, none⟩) (Nat.le_refl _) _).setCell (p := ⟨b, m, none⟩) (Nat.le_refl _) _) 1)⟩
        case measure => simp [intOf]; omega
      · go_wp2
        go_end0
        exact ⟨rfl, ⟨HW.out.lt, fun j hj => (HW.out.cell j hj).trans (by rw [hrev_end (f := f) hj hkm (by omega)]), HW.out.free⟩, HL.out⟩
end Go.Proofs.YtmhlgnhfbickdaaDoor
