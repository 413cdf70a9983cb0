/-
  The reference's tables: what is left from each place on. Conditions: the prints are short.
-/
import Derived.Test.YtmhlgnhfbickdaaDoorP4
import Derived.Test.YtmhlgnhfbickdaaDoorP6
namespace Go.Proofs.YtmhlgnhfbickdaaDoor
set_option linter.unusedVariables false
set_option linter.unusedSimpArgs false
open Go.RowKit Go.Shelf

/-! ### rows of numbers -/
def intsA (N : Nat) (f : Nat → Nat) : Array Value := ((List.range N).map fun k => Value.int .i64 (f k : Int)).toArray
theorem intsA_get {N k : Nat} {f : Nat → Nat} (h : k < N) : (intsA N f)[k]? = some (.int .i64 (f k : Int)) := by simp [intsA, h]
theorem intsA_size (N : Nat) (f : Nat → Nat) : (intsA N f).size = N := by simp [intsA]
theorem intsA_congr {N : Nat} {f g : Nat → Nat} (h : ∀ k, k < N → f k = g k) : intsA N f = intsA N g := by
  unfold intsA
  congr 1
  exact List.map_congr_left fun j hj => by rw [h j (List.mem_range.1 hj)]
theorem intsA_set {N k : Nat} (hk : k < N) (f : Nat → Nat) (x : Nat) : (intsA N f).setIfInBounds k (.int .i64 (x : Int)) = intsA N (fun j => if j = k then x else f j) := by
  apply Array.ext_getElem?
  intro j
  rw [Array.getElem?_setIfInBounds, intsA_size]
  by_cases hj : j < N
  · rw [intsA_get hj, intsA_get hj]
    by_cases e : k = j
    · subst e; simp [hk]
    · have e' : ¬ j = k := fun h => e h.symm
      simp only [if_neg e, if_neg e']
  · rw [Array.getElem?_eq_none (by rw [intsA_size]; omega), Array.getElem?_eq_none (by rw [intsA_size]; omega)]
    by_cases e : k = j
    · subst e; omega
    · simp [e]
theorem info25 : (Tryd.prog.info? 25).map (fun i => (i.zero, i.size, i.bytes)) = some (some (.slice none 0 0), 1, 24) := by kernel_rfl
theorem info3 : (Tryd.prog.info? 3).map (fun i => (i.zero, i.size, i.bytes)) = some (some (.int .i64 0), 1, 8) := by kernel_rfl
theorem run_mkouter (N len : Nat) (g : Nat → Nat) (hN : N ≤ 1000000) (w : World) :
    (Instr.makeSlice 26 (.int .i64 (N : Int)) (.int .i64 (N : Int))).run Tryd.prog w = .ok (.slice (some ⟨w.heap.size, 0, none⟩) N N) (w.alloc (.cells (rowsA N len N g) 25)) := by
  obtain ⟨i, hi, hz, hs, hb⟩ := info_parts info25
  have h := run_make (P := Tryd.prog) (w := w) 26 25 i (.slice none 0 0) Tryd.underlying26 hi hz .i64 .i64 N N (by omega) (by omega) (by rw [hb]; omega) (by omega)
  rw [h]
  have e : madeCells (Value.slice none 0 0).cells ((N : Int).toNat * i.size) = rowsA N len N g := by
    rw [hs, Int.toNat_natCast, Nat.mul_one]
    apply Array.ext_getElem?
    intro j
    by_cases hj : j < N
    · rw [rowsA_get hj, if_neg (by omega)]; simp [madeCells, hj, Value.cells, Nat.mod_one]
    · rw [Array.getElem?_eq_none (by rw [size_madeCells]; omega), Array.getElem?_eq_none (by rw [rowsA_size]; omega)]
  rw [e, Int.toNat_natCast]
theorem run_mkints (N : Nat) (hN : N ≤ 1000000) (w : World) :
    (Instr.makeSlice 25 (.int .i64 (N : Int)) (.int .i64 (N : Int))).run Tryd.prog w = .ok (.slice (some ⟨w.heap.size, 0, none⟩) N N) (w.alloc (.cells (intsA N fun _ => 0) 3)) := by
  obtain ⟨i, hi, hz, hs, hb⟩ := info_parts info3
  have h := run_make (P := Tryd.prog) (w := w) 25 3 i (.int .i64 0) Tryd.underlying25 hi hz .i64 .i64 N N (by omega) (by omega) (by rw [hb]; omega) (by omega)
  rw [h]
  have e : madeCells (Value.int .i64 0).cells ((N : Int).toNat * i.size) = intsA N fun _ => 0 := by
    rw [hs, Int.toNat_natCast, Nat.mul_one]
    apply Array.ext_getElem?
    intro j
    by_cases hj : j < N
    · rw [intsA_get hj]; simp [madeCells, hj, Value.cells, Nat.mod_one]
    · rw [Array.getElem?_eq_none (by rw [size_madeCells]; omega), Array.getElem?_eq_none (by rw [intsA_size]; omega)]
  rw [e, Int.toNat_natCast]

/-- what stands ahead of row j -/
structure OutL (w wr : World) (s t : ByteArray) (p c B Y j : Nat) (g h : Nat → Nat) : Prop where
  b5 : Blk wr w.heap.size 24 #[.int .i64 (p : Int), .int .i64 (c : Int)]
  bo : Blk wr B 25 (rowsA (s.size + 1) (t.size + 1) j g)
  yo : Blk wr Y 25 (rowsA (s.size + 1) (t.size + 1) j h)
  br : ∀ i, j ≤ i → i ≤ s.size → Blk wr (g i) 3 (intsA (t.size + 1) fun k => (val s t p c i k).1)
  yr : ∀ i, j ≤ i → i ≤ s.size → Blk wr (h i) 3 (intsA (t.size + 1) fun k => (val s t p c i k).2)
  ne : B ≠ Y
  lo : w.heap.size < B ∧ w.heap.size < Y
  bel : Below w.heap.size w wr
/-- what stands within row i: its numbers as f tells -/
structure RowL (w wr : World) (s t : ByteArray) (p c B Y i : Nat) (g h : Nat → Nat) (f : Nat → Nat × Nat) : Prop where
  b5 : Blk wr w.heap.size 24 #[.int .i64 (p : Int), .int .i64 (c : Int)]
  bo : Blk wr B 25 (rowsA (s.size + 1) (t.size + 1) i g)
  yo : Blk wr Y 25 (rowsA (s.size + 1) (t.size + 1) i h)
  br : ∀ i', i < i' → i' ≤ s.size → Blk wr (g i') 3 (intsA (t.size + 1) fun k => (val s t p c i' k).1) ∧ g i' ≠ g i ∧ g i' ≠ h i
  yr : ∀ i', i < i' → i' ≤ s.size → Blk wr (h i') 3 (intsA (t.size + 1) fun k => (val s t p c i' k).2) ∧ h i' ≠ g i ∧ h i' ≠ h i
  bc : Blk wr (g i) 3 (intsA (t.size + 1) fun k => (f k).1)
  yc : Blk wr (h i) 3 (intsA (t.size + 1) fun k => (f k).2)
  gh : g i ≠ h i
  ne : B ≠ Y
  lo : w.heap.size < B ∧ w.heap.size < Y
  li : w.heap.size < g i ∧ w.heap.size < h i
  bel : Below w.heap.size w wr
section
variable {w wr wr' : World} {s t : ByteArray} {p c B Y i k : Nat} {g h : Nat → Nat} {f f' : Nat → Nat × Nat}
theorem RowL.next (H : RowL w wr s t p c B Y i g h f) (hb : Below wr.heap.size wr wr') : RowL w wr' s t p c B Y i g h f :=
  ⟨H.b5.below' hb, H.bo.below' hb, H.yo.below' hb, fun i' h1 h2 => ⟨(H.br i' h1 h2).1.below' hb, (H.br i' h1 h2).2⟩, fun i' h1 h2 => ⟨(H.yr i' h1 h2).1.below' hb, (H.yr i' h1 h2).2⟩, H.bc.below' hb, H.yc.below' hb, H.gh, H.ne, H.lo, H.li, btr H.bel hb H.bel.size⟩
theorem RowL.congr (H : RowL w wr s t p c B Y i g h f) (e : ∀ k, k < t.size + 1 → f k = f' k) : RowL w wr s t p c B Y i g h f' :=
  { H with bc := by rw [← intsA_congr (f := fun k => (f k).1) (fun k hk => by rw [e k hk])]; exact H.bc, yc := by rw [← intsA_congr (f := fun k => (f k).2) (fun k hk => by rw [e k hk])]; exact H.yc }
theorem RowL.setB (H : RowL w wr s t p c B Y i g h f) (hk : k < t.size + 1) (x : Nat) : RowL w (wr.setCell ⟨g i, k, none⟩ (.int .i64 (x : Int))) s t p c B Y i g h (fun j => if j = k then (x, (f k).2) else f j) := by
  have n5 : w.heap.size ≠ g i := Nat.ne_of_lt H.li.1
  have nb : B ≠ g i := H.bo.ne_ H.bc (by decide)
  have ny : Y ≠ g i := H.yo.ne_ H.bc (by decide)
  refine ⟨H.b5.far (p := ⟨g i, k, none⟩) n5 _, H.bo.far (p := ⟨g i, k, none⟩) nb _, H.yo.far (p := ⟨g i, k, none⟩) ny _, fun i' h1 h2 => ⟨(H.br i' h1 h2).1.far (p := ⟨g i, k, none⟩) (H.br i' h1 h2).2.1 _, (H.br i' h1 h2).2⟩,
    fun i' h1 h2 => ⟨(H.yr i' h1 h2).1.far (p := ⟨g i, k, none⟩) (H.yr i' h1 h2).2.1 _, (H.yr i' h1 h2).2⟩, ?_, ?_, H.gh, H.ne, H.lo, H.li, H.bel.setCell (p := ⟨g i, k, none⟩) (Nat.le_of_lt H.li.1) _⟩
  · have h1 := H.bc.set_ k (.int .i64 (x : Int))
    rw [intsA_set hk] at h1
    rw [intsA_congr (g := fun j => if j = k then x else (f j).1) (fun j hj => by by_cases e : j = k <;> simp [e])]
    exact h1
  · rw [intsA_congr (g := fun j => (f j).2) (fun j hj => by by_cases e : j = k <;> simp [e])]
    exact H.yc.far (p := ⟨g i, k, none⟩) (Ne.symm H.gh) _
theorem RowL.setY (H : RowL w wr s t p c B Y i g h f) (hk : k < t.size + 1) (x : Nat) : RowL w (wr.setCell ⟨h i, k, none⟩ (.int .i64 (x : Int))) s t p c B Y i g h (fun j => if j = k then ((f k).1, x) else f j) := by
  have n5 : w.heap.size ≠ h i := Nat.ne_of_lt H.li.2
  have nb : B ≠ h i := H.bo.ne_ H.yc (by decide)
  have ny : Y ≠ h i := H.yo.ne_ H.yc (by decide)
  refine ⟨H.b5.far (p := ⟨h i, k, none⟩) n5 _, H.bo.far (p := ⟨h i, k, none⟩) nb _, H.yo.far (p := ⟨h i, k, none⟩) ny _, fun i' h1 h2 => ⟨(H.br i' h1 h2).1.far (p := ⟨h i, k, none⟩) (H.br i' h1 h2).2.2 _, (H.br i' h1 h2).2⟩,
    fun i' h1 h2 => ⟨(H.yr i' h1 h2).1.far (p := ⟨h i, k, none⟩) (H.yr i' h1 h2).2.2 _, (H.yr i' h1 h2).2⟩, ?_, ?_, H.gh, H.ne, H.lo, H.li, H.bel.setCell (p := ⟨h i, k, none⟩) (Nat.le_of_lt H.li.2) _⟩
  · rw [intsA_congr (g := fun j => (f j).1) (fun j hj => by by_cases e : j = k <;> simp [e])]
    exact H.bc.far (p := ⟨h i, k, none⟩) H.gh _
  · have h1 := H.yc.set_ k (.int .i64 (x : Int))
    rw [intsA_set hk] at h1
    rw [intsA_congr (g := fun j => if j = k then x else (f j).2) (fun j hj => by by_cases e : j = k <;> simp [e])]
    exact h1
/-- the numbers of place k' of row i' -/
theorem RowL.at_ (H : RowL w wr s t p c B Y i g h f) {i' k' : Nat} (hi : i ≤ i') (hi2 : i' ≤ s.size) (hk : k' ≤ t.size) (v : Nat × Nat) (hv : (if i' = i then f k' else val s t p c i' k') = v) :
    (wr.cell? ⟨B, i', none⟩ = some (.slice (some ⟨g i', 0, none⟩) (t.size + 1) (t.size + 1)) ∧ wr.cell? ⟨Y, i', none⟩ = some (.slice (some ⟨h i', 0, none⟩) (t.size + 1) (t.size + 1))) ∧
    wr.cell? ⟨g i', k', none⟩ = some (.int .i64 (v.1 : Int)) ∧ wr.cell? ⟨h i', k', none⟩ = some (.int .i64 (v.2 : Int)) := by
  refine ⟨⟨(H.bo.cell i').trans ((rowsA_get (by omega)).trans (by rw [if_pos hi])), (H.yo.cell i').trans ((rowsA_get (by omega)).trans (by rw [if_pos hi]))⟩, ?_⟩
  by_cases e : i' = i
  · subst e
    rw [if_pos rfl] at hv
    subst hv
    exact ⟨(H.bc.cell k').trans (intsA_get (by omega)), (H.yc.cell k').trans (intsA_get (by omega))⟩
  · rw [if_neg e] at hv
    subst hv
    have h1 := H.br i' (by omega) hi2
    have h2 := H.yr i' (by omega) hi2
    exact ⟨(h1.1.cell k').trans (intsA_get (by omega)), (h2.1.cell k').trans (intsA_get (by omega))⟩
theorem RowL.out (H : RowL w wr s t p c B Y i g h f) (e : ∀ k, k < t.size + 1 → f k = val s t p c i k) : OutL w wr s t p c B Y i g h := by
  refine ⟨H.b5, H.bo, H.yo, fun i' h1 h2 => ?_, fun i' h1 h2 => ?_, H.ne, H.lo, H.bel⟩
  · by_cases hi : i' = i
    · subst hi
      rw [← intsA_congr (f := fun k => (f k).1) (fun k hk => by rw [e k hk])]
      exact H.bc
    · exact (H.br i' (by omega) h2).1
  · by_cases hi : i' = i
    · subst hi
      rw [← intsA_congr (f := fun k => (f k).2) (fun k hk => by rw [e k hk])]
      exact H.yc
    · exact (H.yr i' (by omega) h2).1
/-- a new row: two new blocks -/
theorem OutL.row {w2 : World} {x y : Nat} (H : OutL w wr s t p c B Y (i + 1) g h) (hi : i ≤ s.size) (hb : Below wr.heap.size wr w2) (hx : Blk w2 x 3 (intsA (t.size + 1) fun _ => 0)) (hy : Blk w2 y 3 (intsA (t.size + 1) fun _ => 0))
    (lx : wr.heap.size ≤ x) (ly : wr.heap.size ≤ y) (xy : x ≠ y) :
    RowL w ((w2.setCell ⟨B, i, none⟩ (.slice (some ⟨x, 0, none⟩) (t.size + 1) (t.size + 1))).setCell ⟨Y, i, none⟩ (.slice (some ⟨y, 0, none⟩) (t.size + 1) (t.size + 1))) s t p c B Y i (fun j => if j = i then x else g j) (fun j => if j = i then y else h j) (fun _ => (0, 0)) := by
  have lB := H.bo.lt
  have lY := H.yo.lt
  have l5 := H.b5.lt
  have n5 : w.heap.size ≠ B := Nat.ne_of_lt H.lo.1
  have n6 : w.heap.size ≠ Y := Nat.ne_of_lt H.lo.2
  have far : ∀ {z ty : Nat} {cs : Array Value}, Blk w2 z ty cs → z ≠ B → z ≠ Y → Blk ((w2.setCell ⟨B, i, none⟩ (.slice (some ⟨x, 0, none⟩) (t.size + 1) (t.size + 1))).setCell ⟨Y, i, none⟩ (.slice (some ⟨y, 0, none⟩) (t.size + 1) (t.size + 1))) z ty cs :=
    fun hz h1 h2 => (hz.far (p := ⟨B, i, none⟩) h1 _).far (p := ⟨Y, i, none⟩) h2 _
  refine ⟨far (H.b5.below' hb) n5 n6, ?_, ?_, fun i' h1 h2 => ?_, fun i' h1 h2 => ?_, ?_, ?_, ?_, H.ne, H.lo, ?_, ?_⟩
  · have h1 := ((H.bo.below' hb).set_ i (.slice (some ⟨x, 0, none⟩) (t.size + 1) (t.size + 1))).far (p := ⟨Y, i, none⟩) H.ne (.slice (some ⟨y, 0, none⟩) (t.size + 1) (t.size + 1))
    rw [rowsA_set _ (by omega)] at h1
    exact h1
  · have h1 := ((H.yo.below' hb).far (p := ⟨B, i, none⟩) (Ne.symm H.ne) (.slice (some ⟨x, 0, none⟩) (t.size + 1) (t.size + 1))).set_ i (.slice (some ⟨y, 0, none⟩) (t.size + 1) (t.size + 1))
    rw [rowsA_set _ (by omega)] at h1
    exact h1
  · have hne : ¬ i' = i := by omega
    have hbr := H.br i' (by omega) h2
    have := hbr.lt
    simp only [if_neg hne, if_true]
    exact ⟨far (hbr.below' hb) (hbr.ne_ H.bo (by decide)) (hbr.ne_ H.yo (by decide)), by omega, by omega⟩
  · have hne : ¬ i' = i := by omega
    have hbr := H.yr i' (by omega) h2
    have := hbr.lt
    simp only [if_neg hne, if_true]
    exact ⟨far (hbr.below' hb) (hbr.ne_ H.bo (by decide)) (hbr.ne_ H.yo (by decide)), by omega, by omega⟩
  · simp only [if_true]
    exact far hx (by omega) (by omega)
  · simp only [if_true]
    exact far hy (by omega) (by omega)
  · simp only [if_true]
    exact xy
  · simp only [if_true]
    omega
  · exact ((btr H.bel hb H.bel.size).setCell (p := ⟨B, i, none⟩) (Nat.le_of_lt H.lo.1) _).setCell (p := ⟨Y, i, none⟩) (Nat.le_of_lt H.lo.2) _
end
end Go.Proofs.YtmhlgnhfbickdaaDoor
