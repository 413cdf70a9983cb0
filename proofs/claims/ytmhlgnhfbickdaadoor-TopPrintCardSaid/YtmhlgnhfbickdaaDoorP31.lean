/-
  A pair the other way round. Conditions: the prints are short.
-/
import Derived.Test.YtmhlgnhfbickdaaDoorP30
namespace Go.Proofs.YtmhlgnhfbickdaaDoor
set_option linter.unusedVariables false
set_option linter.unusedSimpArgs false
open Go.RowKit Go.Shelf

def byF (s : ByteArray) : Nat → Int := fun j => ((s.data.toList.getD j 0).toNat : Int)
theorem bytes_new (w : World) (s : ByteArray) (cap : Nat) : BytesW (w.drew.alloc (.cells (bytesRow s cap) 5 ((bytesRow s cap).size, (bytesRow s cap).size + 1))) w.heap.size s.size (byF s) := by
  have hg : (w.drew.alloc (.cells (bytesRow s cap) 5 ((bytesRow s cap).size, (bytesRow s cap).size + 1))).heap[w.heap.size]? = some (.cells (bytesRow s cap) 5 ((bytesRow s cap).size, (bytesRow s cap).size + 1)) := heap_alloc_new w.drew _
  have hsz : s.size ≤ (bytesRow s cap).size := by simp [bytesRow]
  refine ⟨by simp, fun j hj => ?_, fun j hj => ?_⟩
  · rw [cell_of_row _ _ j _ _ _ hg, bytesRow_at s cap j hj]
    have hj' : j < s.data.toList.length := by simpa using hj
    unfold byF
    rw [List.getD_eq_getElem?_getD, List.getElem?_eq_getElem hj']
    rfl
  · simp only [World.frozen?, hg]
    simp
    omega
set_option maxHeartbeats 2000000 in
/-- turned's own function -/
theorem revc_any (s : ByteArray) (w : World) (hs : s.size ≤ 20) : Calls Tryd.prog 99 #[.string s] w fun e w' => e = .returned (.string (revB s)) ∧ Below w.heap.size w w' := by
  have kc := run_bytes_of_string (P := Tryd.prog) w 9 99 5 s Tryd.underlying9 Tryd.underlying99 Tryd.underlying5
  have HN := hid (bytes_new w s (grownCap w s.size 0 5))
  have hbl : Below w.heap.size w (w.drew.alloc (.cells (bytesRow s (grownCap w s.size 0 5)) 5 ((bytesRow s (grownCap w s.size 0 5)).size, (bytesRow s (grownCap w s.size 0 5)).size + 1))) := (bdr w 1).trans (box_bel w.drew _)
  generalize grownCap w s.size 0 5 = cap at kc HN hbl
  generalize w.drew.alloc (.cells (bytesRow s cap) 5 ((bytesRow s cap).size, (bytesRow s cap).size + 1)) = w1 at kc HN hbl
  have HB := hid hbl
  clear hbl
  go_enter Tryd.func99, Tryd.ntmps99
  go_wp2_with fail
  refine (rev_any w.heap.size s.size cap (byF s) _ hs HN.out).mono ?_
  rintro e w2 ⟨rfl, hR, hb2⟩
  have kb : (convert 99 9 (.slice (some ⟨w.heap.size, 0, none⟩) s.size cap)).run Tryd.prog w2 = .ok (.string (revB s)) w2 := by
    have h := run_convert_bytes_back (P := Tryd.prog) w2 99 9 5 ⟨w.heap.size, 0, none⟩ cap s.data.toList.reverse Tryd.underlying99 Tryd.underlying5 Tryd.underlying9 (fun j hj => by
      have hj' : j < s.size := by simpa using hj
      have hplain : (⟨w.heap.size, 0, none⟩ : Addr).add j = ⟨w.heap.size, j, none⟩ := by unfold Addr.add; split <;> simp_all
      rw [hplain, hR.cell j hj']
      have h1 : s.data.toList.length = s.size := by simp
      unfold byF
      rw [List.getD_eq_getElem?_getD, List.getElem?_eq_getElem (by omega), List.getElem_reverse]
      simp only [Option.getD_some, h1])
    rw [show s.data.toList.reverse.length = s.size by simp] at h
    exact h
  have HB2 := hid (HB.out.trans hb2)
  clear hR hb2 kc
  go_wp2
  go_ret
  exact ⟨rfl, HB2.out⟩
end Go.Proofs.YtmhlgnhfbickdaaDoor
