/-
  (pair).turned. Conditions: the prints are short.
-/
import Derived.Test.YtmhlgnhfbickdaaDoorP31
namespace Go.Proofs.YtmhlgnhfbickdaaDoor
set_option linter.unusedVariables false
set_option linter.unusedSimpArgs false
open Go.RowKit Go.Shelf

theorem wp_region_heldR {P : Program} {ops : Array Oper} {Qn : Act → World → Prop} {Q : Exit → Act → World → Prop} {S : World → Prop} {id : Nat} {a : Act} {w : World} (hm : P.follows .mixedOrders = true) (hQ : ∀ a w, Qn a w → Q .normal a w)
    (h : wpAnyH P .any ops (OnlyNormal Qn) S ops.size (Array.replicate ops.size false) a w.drew) : (Code.region id ops true).wp P Q a w :=
  Code.wp_mono (fun e a w h => by obtain ⟨rfl, h⟩ := h; exact hQ _ _ h) (wp_region_any hm (wpAny_of_held _ _ _ _ h))
set_option maxHeartbeats 2000000 in
theorem pturned_any (s t : ByteArray) (p c : Int) (w : World) (hs : s.size ≤ 20) (ht : t.size ≤ 20) :
    Calls Tryd.prog 72 #[.agg #[.string s, .string t, .int .i64 p, .int .i64 c]] w fun e w' => e = .returned (.agg #[.string (revB s), .string (revB t), .int .i64 p, .int .i64 c]) ∧ Below w.heap.size w w' := by
  have HS := hid hs
  have HT := hid ht
  clear hs ht
  go_enter Tryd.func72, Tryd.ntmps72
  go_wp2_with fail
  have hb0 := hid (((box_bel w (.cells #[.string s, .string t, .int .i64 p, .int .i64 c] 72))).trans ((box_bel _ (.cells #[.string { data := #[] }, .string { data := #[] }, .int .i64 0, .int .i64 0] 72)).mono (by simp)))
  have hB1 := (Blk.new w 72 #[.string s, .string t, .int .i64 p, .int .i64 c]).alloc (.cells #[.string { data := #[] }, .string { data := #[] }, .int .i64 0, .int .i64 0] 72)
  have hB2 := Blk.new (w.alloc (.cells #[.string s, .string t, .int .i64 p, .int .i64 c] 72)) 72 #[.string { data := #[] }, .string { data := #[] }, .int .i64 0, .int .i64 0]
  rw [show (w.alloc (.cells #[.string s, .string t, .int .i64 p, .int .i64 c] 72)).heap.size = w.heap.size + 1 by simp] at hB2
  generalize (w.alloc (.cells #[.string s, .string t, .int .i64 p, .int .i64 c] 72)).alloc (.cells #[.string { data := #[] }, .string { data := #[] }, .int .i64 0, .int .i64 0] 72) = w0 at hb0 hB1 hB2 ⊢
  have c0 := hB1.cell 0
  have c1 := hB1.cell 1
  have c2 := hB1.cell 2
  have c3 := hB1.cell 3
  simp only [List.getElem?_toArray, List.getElem?_cons_zero, List.getElem?_cons_succ] at c0 c1 c2 c3
  have HB2 := hid hB2
  clear hB1 hB2
  have hmx : Tryd.prog.follows .mixedOrders = true := by kernel_rfl
  refine wp_region_heldR (S := fun w' => w'.cell? ⟨w.heap.size, 0, none⟩ = some (.string s) ∧ w'.cell? ⟨w.heap.size, 1, none⟩ = some (.string t) ∧ w'.cell? ⟨w.heap.size, 2, none⟩ = some (.int .i64 p) ∧ w'.cell? ⟨w.heap.size, 3, none⟩ = some (.int .i64 c)) hmx (fun _ _ h => h) ?_
  have K0 : Hid (Below w0.heap.size w0 w0.drew) := hid (bdr w0 1)
  have hS : Hid (w0.drew.cell? ⟨w.heap.size, 0, none⟩ = some (.string s) ∧ w0.drew.cell? ⟨w.heap.size, 1, none⟩ = some (.string t) ∧ w0.drew.cell? ⟨w.heap.size, 2, none⟩ = some (.int .i64 p) ∧ w0.drew.cell? ⟨w.heap.size, 3, none⟩ = some (.int .i64 c)) := hid ⟨c0, c1, c2, c3⟩
  refine takeR (i := 0) (v := ?_) rfl (by kernel_rfl) (by kernel_rfl) (by kernel_rfl) (by rfl) ?_ hS.out ?_
  rotate_left
  · rintro w' ⟨t0, t1, t2, t3⟩
    go_simp <;> with_reducible rfl
  simp only [Act.put, List.setIfInBounds_toArray, List.set_cons_zero, List.set_cons_succ]
  refine takeR (i := 1) (v := ?_) rfl (by kernel_rfl) (by kernel_rfl) (by kernel_rfl) (by rfl) ?_ hS.out ?_
  rotate_left
  · rintro w' ⟨t0, t1, t2, t3⟩
    go_simp <;> with_reducible rfl
  simp only [Act.put, List.setIfInBounds_toArray, List.set_cons_zero, List.set_cons_succ]
  refine takeR (i := 2) (v := ?_) rfl (by kernel_rfl) (by kernel_rfl) (by kernel_rfl) (by rfl) ?_ hS.out ?_
  rotate_left
  · rintro w' ⟨t0, t1, t2, t3⟩
    go_simp <;> with_reducible rfl
  simp only [Act.put, List.setIfInBounds_toArray, List.set_cons_zero, List.set_cons_succ]
  refine takeR (i := 4) (v := ?_) rfl (by kernel_rfl) (by kernel_rfl) (by kernel_rfl) (by rfl) ?_ hS.out ?_
  rotate_left
  · rintro w' ⟨t0, t1, t2, t3⟩
    go_simp <;> with_reducible rfl
  simp only [Act.put, List.setIfInBounds_toArray, List.set_cons_zero, List.set_cons_succ]
  refine takeR (i := 5) (v := ?_) rfl (by kernel_rfl) (by kernel_rfl) (by kernel_rfl) (by rfl) ?_ hS.out ?_
  rotate_left
  · rintro w' ⟨t0, t1, t2, t3⟩
    go_simp <;> with_reducible rfl
  simp only [Act.put, List.setIfInBounds_toArray, List.set_cons_zero, List.set_cons_succ]
  refine takeR (i := 6) (v := ?_) rfl (by kernel_rfl) (by kernel_rfl) (by kernel_rfl) (by rfl) ?_ hS.out ?_
  rotate_left
  · rintro w' ⟨t0, t1, t2, t3⟩
    go_simp <;> with_reducible rfl
  simp only [Act.put, List.setIfInBounds_toArray, List.set_cons_zero, List.set_cons_succ]
  refine takeR (i := 8) (v := ?_) rfl (by kernel_rfl) (by kernel_rfl) (by kernel_rfl) (by rfl) ?_ hS.out ?_
  rotate_left
  · rintro w' ⟨t0, t1, t2, t3⟩
    go_simp <;> with_reducible rfl
  simp only [Act.put, List.setIfInBounds_toArray, List.set_cons_zero, List.set_cons_succ]
  refine takeR (i := 9) (v := ?_) rfl (by kernel_rfl) (by kernel_rfl) (by kernel_rfl) (by rfl) ?_ hS.out ?_
  rotate_left
  · rintro w' ⟨t0, t1, t2, t3⟩
    go_simp <;> with_reducible rfl
  simp only [Act.put, List.setIfInBounds_toArray, List.set_cons_zero, List.set_cons_succ]
  refine oneR (i := 3) rfl (by kernel_rfl) (by rfl) fun K9 hK9 => ?_
  go_simp
  refine (revc_any s _ HS.out).mono ?_
  rintro e w1 ⟨rfl, hb1⟩
  have K1 := hid (btr K0.out hb1 K0.out.size)
  refine hK9.out _ _ ⟨bcof K1.out c0, bcof K1.out c1, bcof K1.out c2, bcof K1.out c3⟩ ?_
  clear hK9 K9 hb1
  refine oneR (i := 7) rfl (by kernel_rfl) (by rfl) fun K9 hK9 => ?_
  go_simp
  refine (revc_any t _ HT.out).mono ?_
  rintro e w2 ⟨rfl, hb2⟩
  have K2 := hid (btr K1.out hb2 K1.out.size)
  refine hK9.out _ _ ⟨bcof K2.out c0, bcof K2.out c1, bcof K2.out c2, bcof K2.out c3⟩ ?_
  clear hK9 K9 hb2
  refine takeR (i := 10) (v := ?_) rfl (by kernel_rfl) (by kernel_rfl) (by kernel_rfl) (by rfl) ?_ ⟨bcof K2.out c0, bcof K2.out c1, bcof K2.out c2, bcof K2.out c3⟩ ?_
  rotate_left
  · rintro w' ⟨t0, t1, t2, t3⟩
    go_simp <;> with_reducible rfl
  simp only [Act.put, List.setIfInBounds_toArray, List.set_cons_zero, List.set_cons_succ]
  have hB3 := HB2.out.below' K2.out
  have d0 := hB3.cell 0
  have d1 := hB3.cell 1
  have d2 := hB3.cell 2
  have d3 := hB3.cell 3
  have f0 := hB3.frozen 0
  have f1 := hB3.frozen 1
  have f2 := hB3.frozen 2
  have f3 := hB3.frozen 3
  simp only [List.getElem?_toArray, List.getElem?_cons_zero, List.getElem?_cons_succ] at d0 d1 d2 d3
  refine oneR (i := 11) rfl (by kernel_rfl) (by rfl) fun K9 hK9 => ?_
  go_simp
  have hne : w.heap.size ≠ w.heap.size + 1 := by omega
  refine hK9.out _ _ ⟨cell_far (cell_far (cell_far (cell_far (bcof K2.out c0) hne) hne) hne) hne, cell_far (cell_far (cell_far (cell_far (bcof K2.out c1) hne) hne) hne) hne, cell_far (cell_far (cell_far (cell_far (bcof K2.out c2) hne) hne) hne) hne, cell_far (cell_far (cell_far (cell_far (bcof K2.out c3) hne) hne) hne) hne⟩ ?_
  clear hK9 K9
  refine doneR (by kernel_rfl) ?_
  have hB4 := (((hB3.set_ 0 (.string (revB s))).set_ 1 (.string (revB t))).set_ 2 (.int .i64 p)).set_ 3 (.int .i64 c)
  have g0 := hB4.cell 0
  have g1 := hB4.cell 1
  have g2 := hB4.cell 2
  have g3 := hB4.cell 3
  simp at g0 g1 g2 g3
  have HBE := hid (((((btr hb0.out K2.out hb0.out.size).setCell (p := ⟨w.heap.size + 1, 0, none⟩) (by show w.heap.size ≤ w.heap.size + 1; omega) (.string (revB s))).setCell (p := ⟨w.heap.size + 1, 1, none⟩) (by show w.heap.size ≤ w.heap.size + 1; omega) (.string (revB t))).setCell (p := ⟨w.heap.size + 1, 2, none⟩) (by show w.heap.size ≤ w.heap.size + 1; omega) (.int .i64 p)).setCell (p := ⟨w.heap.size + 1, 3, none⟩) (by show w.heap.size ≤ w.heap.size + 1; omega) (.int .i64 c))
  generalize (((w2.setCell ⟨w.heap.size + 1, 0, none⟩ (.string (revB s))).setCell ⟨w.heap.size + 1, 1, none⟩ (.string (revB t))).setCell ⟨w.heap.size + 1, 2, none⟩ (.int .i64 p)).setCell ⟨w.heap.size + 1, 3, none⟩ (.int .i64 c) = w4 at g0 g1 g2 g3 HBE ⊢
  go_wp2
  refine bodyPost_ret (v := .agg #[.string (revB s), .string (revB t), .int .i64 p, .int .i64 c]) (by simp [results, Tryd.results72, go_sem, g0, g1, g2, g3]) rfl ⟨rfl, HBE.out⟩
end Go.Proofs.YtmhlgnhfbickdaaDoor
