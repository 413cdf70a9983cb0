/-
  rests: the table of what it costs from each place on, and in how many ways. Conditions: the prints are short.
-/
import Derived.Test.YtmhlgnhfbickdaaDoorRnd
namespace Go.Proofs.YtmhlgnhfbickdaaDoor
set_option linter.unusedVariables false
set_option linter.unusedSimpArgs false
open Go.RowKit Go.Shelf
attribute [local go_sem] Oper.semAt_some

theorem info86 : (Tryd.prog.info? 86).map (fun i => (i.zero, i.size, i.bytes)) = some (some (.slice none 0 0), 1, 24) := by kernel_rfl
theorem info85 : (Tryd.prog.info? 85).map (fun i => (i.zero, i.size, i.bytes)) = some (some (.agg #[.int .i64 0, .int .i64 0]), 2, 16) := by kernel_rfl
theorem run_mkrows (N len : Nat) (g : Nat → Nat) (hN : N ≤ 1000000) (w : World) :
    (Instr.makeSlice 87 (.int .i64 (N : Int)) (.int .i64 (N : Int))).run Tryd.prog w = .ok (.slice (some ⟨w.heap.size, 0, none⟩) N N) (w.alloc (.cells (rowsA N len N g) 86)) := by
  obtain ⟨i, hi, hz, hs, hb⟩ := info_parts info86
  have h := run_make (P := Tryd.prog) (w := w) 87 86 i (.slice none 0 0) Tryd.underlying87 hi hz .i64 .i64 N N (by omega) (by omega) (by rw [hb]; omega) (by omega)
  rw [h]
  have e : madeCells (Value.slice none 0 0).cells ((N : Int).toNat * i.size) = rowsA N len N g := by
    rw [hs, Int.toNat_natCast, Nat.mul_one]
    apply Array.ext_getElem?
    intro j
    by_cases hj : j < N
    · rw [rowsA_get hj, if_neg (by omega)]; simp [madeCells, hj, Value.cells, Nat.mod_one]
    · rw [Array.getElem?_eq_none (by rw [size_madeCells]; omega), Array.getElem?_eq_none (by rw [rowsA_size]; omega)]
  rw [e, Int.toNat_natCast]
theorem run_mkrest (N : Nat) (hN : N ≤ 1000000) (w : World) :
    (Instr.makeSlice 86 (.int .i64 (N : Int)) (.int .i64 (N : Int))).run Tryd.prog w = .ok (.slice (some ⟨w.heap.size, 0, none⟩) N N) (w.alloc (.cells (restA N fun _ => (0, 0)) 85)) := by
  obtain ⟨i, hi, hz, hs, hb⟩ := info_parts info85
  have h := run_make (P := Tryd.prog) (w := w) 86 85 i (.agg #[.int .i64 0, .int .i64 0]) Tryd.underlying86 hi hz .i64 .i64 N N (by omega) (by omega) (by rw [hb]; omega) (by omega)
  rw [h]
  have e : madeCells (Value.agg #[.int .i64 0, .int .i64 0]).cells ((N : Int).toNat * i.size) = restA N fun _ => (0, 0) := by
    rw [hs, Int.toNat_natCast]
    refine restA_ext (by rw [size_madeCells]) fun k hk => ?_
    have h1 : k * 2 < N * 2 := by omega
    have h2 : k * 2 + 1 < N * 2 := by omega
    have h3 : (k * 2 + 1) % 2 = 1 := by omega
    simp [madeCells, h1, h2, h3, Value.cells]
  rw [e, Int.toNat_natCast]

def val (s t : ByteArray) (p c : Nat) (i k : Nat) : Nat × Nat := dw p c (s.data.toList.drop i) (t.data.toList.drop k)
def RestsR (w : World) (s t : ByteArray) (p c : Nat) (e : Ending) (w' : World) : Prop :=
  ∃ go g, e = .returned (.slice (some ⟨go, 0, none⟩) (s.size + 1) (s.size + 1)) ∧ Blk w' go 86 (rowsA (s.size + 1) (t.size + 1) 0 g) ∧ (∀ i, i ≤ s.size → Blk w' (g i) 85 (restA (t.size + 1) (val s t p c i))) ∧ Below w.heap.size w w'

/-- what stands ahead of row j -/
structure OutK (w wr : World) (s t : ByteArray) (p c j : Nat) (g : Nat → Nat) (ds : List Deferred) : Prop where
  b1 : Blk wr w.heap.size 72 #[.string s, .string t, .int .i64 (p : Int), .int .i64 (c : Int)]
  b3 : Blk wr (w.heap.size + 2) 87 #[.slice (some ⟨w.heap.size + 1, 0, none⟩) (s.size + 1) (s.size + 1)]
  bo : Blk wr (w.heap.size + 1) 86 (rowsA (s.size + 1) (t.size + 1) j g)
  br : ∀ i, j ≤ i → i ≤ s.size → Blk wr (g i) 85 (restA (t.size + 1) (val s t p c i))
  bel : Below w.heap.size w wr
  mks : Marks w.heap.size wr ds
/-- what stands ahead of place k of row i -/
structure InK (w wr : World) (s t : ByteArray) (p c i k : Nat) (g : Nat → Nat) (ds : List Deferred) : Prop where
  b1 : Blk wr w.heap.size 72 #[.string s, .string t, .int .i64 (p : Int), .int .i64 (c : Int)]
  b3 : Blk wr (w.heap.size + 2) 87 #[.slice (some ⟨w.heap.size + 1, 0, none⟩) (s.size + 1) (s.size + 1)]
  bo : Blk wr (w.heap.size + 1) 86 (rowsA (s.size + 1) (t.size + 1) i g)
  br : ∀ i', i < i' → i' ≤ s.size → Blk wr (g i') 85 (restA (t.size + 1) (val s t p c i'))
  bc : Blk wr (g i) 85 (restA (t.size + 1) fun j => if k ≤ j then val s t p c i j else (0, 0))
  ne : ∀ i', i < i' → i' ≤ s.size → g i' ≠ g i
  lo : w.heap.size ≤ g i
  bel : Below w.heap.size w wr
  mks : Marks w.heap.size wr ds
theorem InK.next {w wr wr' : World} {s t : ByteArray} {p c i k : Nat} {g : Nat → Nat} {ds : List Deferred} (h : InK w wr s t p c i k g ds) (hb : Below wr.heap.size wr wr') : InK w wr' s t p c i k g ds :=
  ⟨h.b1.below' hb, h.b3.below' hb, h.bo.below' hb, fun i' h1 h2 => (h.br i' h1 h2).below' hb, h.bc.below' hb, h.ne, h.lo, btr h.bel hb h.bel.size, h.mks.below hb⟩

/-- what a step leads to -/
def cand (s t : ByteArray) (p c : Nat) (x : St) : Nat × Nat := add1 x.2.2.2.toNat (val s t p c x.2.1.toNat x.2.2.1.toNat)
/-- the best of steps -/
def bst (f : St → Nat × Nat) : List St → Nat × Nat
  | [] => (0, 1)
  | x :: l => l.foldl (fun b y => mrg b (f y)) (f x)
theorem bst_snoc (f : St → Nat × Nat) (pre : List St) (x : St) (h : pre ≠ []) : bst f (pre ++ [x]) = mrg (bst f pre) (f x) := by
  cases pre with
  | nil => exact absurd rfl h
  | cons y l => simp [bst]
/-- what a round of the steps keeps -/
structure RI (wr W : World) (b : Nat × Nat) (first : Bool) : Prop where
  b6 : Blk W wr.heap.size 85 #[.int .i64 (b.1 : Int), .int .i64 (b.2 : Int)]
  b7 : Blk W (wr.heap.size + 1) 4 #[.bool first]
  bel : Below wr.heap.size wr W
  sz : wr.heap.size + 4 < W.heap.size
theorem RI.far {wr W : World} {b : Nat × Nat} {f : Bool} (h : RI wr W b f) {T i : Nat} (hT : wr.heap.size + 1 < T) (v : Value) : RI wr (W.setCell ⟨T, i, none⟩ v) b f :=
  ⟨h.b6.far (p := ⟨T, i, none⟩) (by show wr.heap.size ≠ T; omega) v, h.b7.far (p := ⟨T, i, none⟩) (by show wr.heap.size + 1 ≠ T; omega) v, h.bel.setCell (p := ⟨T, i, none⟩) (by show wr.heap.size ≤ T; omega) v, by simpa using h.sz⟩
theorem RI.set0 {wr W : World} {b : Nat × Nat} {f : Bool} (h : RI wr W b f) (x : Nat) : RI wr (W.setCell ⟨wr.heap.size, 0, none⟩ (.int .i64 (x : Int))) (x, b.2) f :=
  ⟨by simpa using h.b6.set_ 0 (.int .i64 (x : Int)), h.b7.far (p := ⟨wr.heap.size, 0, none⟩) (by show wr.heap.size + 1 ≠ wr.heap.size; omega) _, h.bel.setCell (p := ⟨wr.heap.size, 0, none⟩) (Nat.le_refl _) _, by simpa using h.sz⟩
theorem RI.set1 {wr W : World} {b : Nat × Nat} {f : Bool} (h : RI wr W b f) (x : Nat) : RI wr (W.setCell ⟨wr.heap.size, 1, none⟩ (.int .i64 (x : Int))) (b.1, x) f :=
  ⟨by simpa using h.b6.set_ 1 (.int .i64 (x : Int)), h.b7.far (p := ⟨wr.heap.size, 1, none⟩) (by show wr.heap.size + 1 ≠ wr.heap.size; omega) _, h.bel.setCell (p := ⟨wr.heap.size, 1, none⟩) (Nat.le_refl _) _, by simpa using h.sz⟩
theorem RI.setF {wr W : World} {b : Nat × Nat} {f : Bool} (h : RI wr W b f) : RI wr (W.setCell ⟨wr.heap.size + 1, 0, none⟩ (.bool false)) b false :=
  ⟨h.b6.far (p := ⟨wr.heap.size + 1, 0, none⟩) (by show wr.heap.size ≠ wr.heap.size + 1; omega) _, by simpa using h.b7.set_ 0 (.bool false), h.bel.setCell (p := ⟨wr.heap.size + 1, 0, none⟩) (by show wr.heap.size ≤ wr.heap.size + 1; omega) _, by simpa using h.sz⟩
theorem ri_own {β : Type} {wr : World} {B : Nat} (hB : wr.heap.size + 4 < B) (f : β → Nat × Nat) (g : β → Bool) : OwnFrom B (fun (x : β) W => RI wr W (f x) (g x)) := by
  intro x W W' row h hg hr
  exact ⟨ownFrom_blk (fun x => #[.int .i64 ((f x).1 : Int), .int .i64 ((f x).2 : Int)]) (by omega : wr.heap.size < B) x W W' row h.b6 hg hr, ownFrom_blk (fun x => #[.bool (g x)]) (by omega : wr.heap.size + 1 < B) x W W' row h.b7 hg hr,
    ownFrom_below (Nat.le_refl _) (by omega : wr.heap.size ≤ B) x W W' row h.bel hg hr, Nat.lt_of_lt_of_le h.sz hg.size⟩

theorem steps_mem {S T : List UInt8} {p c i k : Nat} {x : St} (h : x ∈ stepsL S T (p : Int) (c : Int) i k) : ∃ i' k' q : Nat, x.2.1 = (i' : Int) ∧ x.2.2.1 = (k' : Int) ∧ x.2.2.2 = (q : Int) ∧ q ≤ max p c ∧
    ((i' = i + 1 ∧ k' = k + 1 ∧ i < S.length ∧ k < T.length) ∨ (i' = i + 1 ∧ k' = k ∧ i < S.length) ∨ (i' = i ∧ k' = k + 1 ∧ k < T.length)) := by
  unfold stepsL at h
  rw [List.mem_append, List.mem_append] at h
  rcases h with h | h | h
  · split at h
    · rename_i hc
      split at h
      · obtain rfl := List.mem_singleton.1 h
        exact ⟨i + 1, k + 1, 0, rfl, rfl, rfl, by omega, .inl ⟨rfl, rfl, hc.1, hc.2⟩⟩
      · obtain rfl := List.mem_singleton.1 h
        exact ⟨i + 1, k + 1, c, rfl, rfl, rfl, by omega, .inl ⟨rfl, rfl, hc.1, hc.2⟩⟩
    · cases h
  · split at h
    · rename_i hc
      obtain rfl := List.mem_singleton.1 h
      exact ⟨i + 1, k, p, rfl, rfl, rfl, by omega, .inr (.inl ⟨rfl, rfl, hc⟩)⟩
    · cases h
  · split at h
    · rename_i hc
      obtain rfl := List.mem_singleton.1 h
      exact ⟨i, k + 1, p, rfl, rfl, rfl, by omega, .inr (.inr ⟨rfl, rfl, hc⟩)⟩
    · cases h
theorem val_cost {s t : ByteArray} {p c i k : Nat} (hs : s.size ≤ 20) (ht : t.size ≤ 20) (hp : p ≤ 9) : (val s t p c i k).1 ≤ 360 := by
  have h := dst_hi (p := p) (c := c) (s.data.toList.drop i) (t.data.toList.drop k)
  have h2 : p * ((s.data.toList.drop i).length + (t.data.toList.drop k).length) ≤ 9 * 40 := Nat.mul_le_mul hp (by simp [List.length_drop]; omega)
  exact Nat.le_trans h h2
theorem val_ways {s t : ByteArray} {p c i k : Nat} (hs : s.size ≤ 20) (ht : t.size ≤ 20) (h : 1 ≤ i + k) (hi : i ≤ s.size) (hk : k ≤ t.size) : (val s t p c i k).2 ≤ 3 ^ 38 := by
  refine Nat.le_trans (wys_le (s.data.toList.drop i) (t.data.toList.drop k)) (Nat.pow_le_pow_right (by omega) ?_)
  simp only [List.length_drop]
  have e1 : s.data.toList.length = s.size := by simp
  have e2 : t.data.toList.length = t.size := by simp
  omega
theorem InK.row {w W : World} {s t : ByteArray} {p c i k : Nat} {g : Nat → Nat} {ds : List Deferred} (h : InK w W s t p c i k g ds) {i' k' : Nat} (hi : i ≤ i') (hi2 : i' ≤ s.size) (hk : k' ≤ t.size) (hik : i' = i → k ≤ k') :
    W.cell? ⟨w.heap.size + 1, i', none⟩ = some (.slice (some ⟨g i', 0, none⟩) (t.size + 1) (t.size + 1)) ∧ W.cell? ⟨g i', k' * 2, none⟩ = some (.int .i64 ((val s t p c i' k').1 : Int)) ∧ W.cell? ⟨g i', k' * 2 + 1, none⟩ = some (.int .i64 ((val s t p c i' k').2 : Int)) ∧ g i' < W.heap.size := by
  refine ⟨(h.bo.cell i').trans ((rowsA_get (by omega)).trans (by rw [if_pos hi])), ?_⟩
  by_cases e : i' = i
  · subst e
    have h1 := restA_get (f := fun j => if k ≤ j then val s t p c i' j else (0, 0)) (N := t.size + 1) (k := k') (by omega)
    simp only [if_pos (hik rfl)] at h1
    exact ⟨(h.bc.cell _).trans h1.1, (h.bc.cell _).trans h1.2, h.bc.lt⟩
  · have hb := h.br i' (by omega) hi2
    have h1 := restA_get (f := val s t p c i') (N := t.size + 1) (k := k') (by omega)
    exact ⟨(hb.cell _).trans h1.1, (hb.cell _).trans h1.2, hb.lt⟩

theorem bst_val (s t : ByteArray) (p c i k : Nat) : bst (cand s t p c) (stepsL s.data.toList t.data.toList (p : Int) (c : Int) i k) = val s t p c i k := by
  have ei : ((i : Int) + 1).toNat = i + 1 := by omega
  have ek : ((k : Int) + 1).toNat = k + 1 := by omega
  have ki : (i : Int).toNat = i := by omega
  have kk : (k : Int).toNat = k := by omega
  have kp : (p : Int).toNat = p := by omega
  have kc : (c : Int).toNat = c := by omega
  by_cases hi : i < s.data.toList.length
  · have di := List.drop_eq_getElem_cons hi
    by_cases hk : k < t.data.toList.length
    · have dk := List.drop_eq_getElem_cons hk
      unfold stepsL
      rw [if_pos ⟨hi, hk⟩, if_pos hi, if_pos hk, List.getElem?_eq_getElem hi, List.getElem?_eq_getElem hk]
      by_cases he : s.data.toList[i] = t.data.toList[k]
      · rw [if_pos (by rw [he])]
        show mrg (mrg (cand s t p c (1, (i : Int) + 1, (k : Int) + 1, 0)) (cand s t p c (3, (i : Int) + 1, (k : Int), (p : Int)))) (cand s t p c (4, (i : Int), (k : Int) + 1, (p : Int))) = val s t p c i k
        unfold cand val
        dsimp only
        rw [ei, ek, ki, kk, kp, di, dk, dw_cons]
        unfold sub
        rw [if_pos he]
        rfl
      · rw [if_neg (fun h => he (by injection h))]
        show mrg (mrg (cand s t p c (2, (i : Int) + 1, (k : Int) + 1, (c : Int))) (cand s t p c (3, (i : Int) + 1, (k : Int), (p : Int)))) (cand s t p c (4, (i : Int), (k : Int) + 1, (p : Int))) = val s t p c i k
        unfold cand val
        dsimp only
        rw [ei, ek, ki, kk, kp, kc, di, dk, dw_cons]
        unfold sub
        rw [if_neg he]
    · have dk := List.drop_of_length_le (Nat.le_of_not_lt hk)
      unfold stepsL
      rw [if_neg (fun h => hk h.2), if_pos hi, if_neg hk]
      show cand s t p c (3, (i : Int) + 1, (k : Int), (p : Int)) = val s t p c i k
      unfold cand val
      dsimp only
      rw [ei, kk, kp, di, dk, dw_cons_nil]
  · have di := List.drop_of_length_le (Nat.le_of_not_lt hi)
    by_cases hk : k < t.data.toList.length
    · have dk := List.drop_eq_getElem_cons hk
      unfold stepsL
      rw [if_neg (fun h => hi h.1), if_neg hi, if_pos hk]
      show cand s t p c (4, (i : Int), (k : Int) + 1, (p : Int)) = val s t p c i k
      unfold cand val
      dsimp only
      rw [ek, ki, kp, di, dk, dw_nil_cons]
    · have dk := List.drop_of_length_le (Nat.le_of_not_lt hk)
      unfold stepsL
      rw [if_neg (fun h => hi h.1), if_neg hi, if_neg hk]
      show (0, 1) = val s t p c i k
      unfold val
      rw [di, dk, dw_nil_nil]
theorem kp_set {W W' : World} {bi bp bk : Nat} (h : KeepsOthers W W' ∧ Kp3 bi bp bk W W') (a : Addr) (v : Value) (h1 : bi ≠ a.block) (h2 : bp ≠ a.block) (h3 : bk ≠ a.block) : KeepsOthers W (W'.setCell a v) ∧ Kp3 bi bp bk W (W'.setCell a v) :=
  ⟨h.1.trans (KeepsOthers.setCell _ _ _), h.2.trans ⟨Below.heap_setCell _ _ _ _ h1, Below.heap_setCell _ _ _ _ h2, Below.heap_setCell _ _ _ _ h3⟩⟩
theorem bst_bound {f : St → Nat × Nat} {A B : Nat} (hB : 1 ≤ B) : ∀ (l : List St), (∀ x ∈ l, (f x).1 ≤ A ∧ (f x).2 ≤ B) → (bst f l).1 ≤ A ∧ (bst f l).2 ≤ (l.length + 1) * B := by
  intro l h
  cases l with
  | nil => simp [bst]; omega
  | cons x l =>
    have key : ∀ (l : List St) (b : Nat × Nat) (n : Nat), (∀ x ∈ l, (f x).1 ≤ A ∧ (f x).2 ≤ B) → b.1 ≤ A → b.2 ≤ n * B → (l.foldl (fun b y => mrg b (f y)) b).1 ≤ A ∧ (l.foldl (fun b y => mrg b (f y)) b).2 ≤ (l.length + n) * B := by
      intro l
      induction l with
      | nil => intro b n _ h1 h2; simpa using ⟨h1, h2⟩
      | cons y l ih =>
        intro b n h h1 h2
        have hy := h y (List.mem_cons_self ..)
        have e : (n + 1) * B = n * B + B := by rw [Nat.add_mul, Nat.one_mul]
        have hm : (mrg b (f y)).1 ≤ A ∧ (mrg b (f y)).2 ≤ (n + 1) * B := by
          unfold mrg
          split
          · exact ⟨hy.1, by omega⟩
          · split
            · dsimp only; exact ⟨h1, by omega⟩
            · exact ⟨h1, by omega⟩
        have := ih (mrg b (f y)) (n + 1) (fun x hx => h x (List.mem_cons_of_mem _ hx)) hm.1 hm.2
        rw [show l.length + (n + 1) = (y :: l).length + n by simp; omega] at this
        exact this
    have hx := h x (List.mem_cons_self ..)
    have := key l (f x) 1 (fun y hy => h y (List.mem_cons_of_mem _ hy)) hx.1 (by omega)
    have e : (l.length + 1) * B ≤ ((x :: l).length + 1) * B := Nat.mul_le_mul_right _ (by simp)
    exact ⟨this.1, Nat.le_trans this.2 e⟩

set_option maxRecDepth 100000 in
set_option maxHeartbeats 4000000 in
theorem rests_any (s t : ByteArray) (p c : Nat) (w : World) (hs : s.size ≤ 20) (ht : t.size ≤ 20) (hp : p ≤ 9) (hc : c ≤ 9) :
    Calls Tryd.prog 67 #[.agg #[.string s, .string t, .int .i64 (p : Int), .int .i64 (c : Int)]] w (RestsR w s t p c) := by
  refine calls_marks Tryd.func67 rfl ?_
  simp only [Tryd.ntmps67, List.size_toArray, List.length_cons, List.length_nil, Nat.reduceAdd, Nat.reduceSub, Array.replicate_succ, Array.replicate_zero, List.push_toArray, List.append_toArray, List.nil_append, List.cons_append]
  have hmk := run_mkrows (s.size + 1) (t.size + 1) (fun _ => 0) (by omega)
  rw [show ((s.size + 1 : Nat) : Int) = (s.size : Int) + 1 by omega] at hmk
  go_wp2
  have HO : Hid (OutK w (((w.alloc (.cells #[.string s, .string t, .int .i64 (p : Int), .int .i64 (c : Int)] 72)).alloc (.cells (rowsA (s.size + 1) (t.size + 1) (s.size + 1) fun x => 0) 86)).alloc (.cells #[.slice (some ⟨w.heap.size + 1, 0, none⟩) (s.size + 1) (s.size + 1)] 87)) s t p c (s.size + 1) (fun _ => 0) []) :=
    hid ⟨((Blk.new _ _ _).alloc _).alloc _, by simpa using Blk.new ((w.alloc (.cells #[.string s, .string t, .int .i64 (p : Int), .int .i64 (c : Int)] 72)).alloc (.cells (rowsA (s.size + 1) (t.size + 1) (s.size + 1) fun x => 0) 86)) 87 #[.slice (some ⟨w.heap.size + 1, 0, none⟩) (s.size + 1) (s.size + 1)],
      (by simpa using (Blk.new (w.alloc (.cells #[.string s, .string t, .int .i64 (p : Int), .int .i64 (c : Int)] 72)) 86 (rowsA (s.size + 1) (t.size + 1) (s.size + 1) fun x => 0)).alloc (.cells #[.slice (some ⟨w.heap.size + 1, 0, none⟩) (s.size + 1) (s.size + 1)] 87)), by omega,
      (((Below.refl _ _).alloc (Nat.le_refl _) _).alloc (by simp) _).alloc (by simp; omega) _, Marks.nil _ _⟩
  clear hmk
  refine wp_loop_ghost_k (fun j a wr => ∃ (g : Nat → Nat) (ds : List Deferred) (u5 u6 u7 u18 u19 u20 u21 u22 u23 u24 u25 u26 u27 u28 u29 u30 u31 u32 u33 u34 u35 u36 u37 u38 u39 u40 u41 u80 u81 u82 u83 u84 u85 u86 : Value), (j ≤ s.size + 1 ∧ Hid (OutK w wr s t p c j g ds)) ∧ a = { tmps := #[.agg #[.string s, .string t, .int .i64 (p : Int), .int .i64 (c : Int)], .pointer (some ⟨w.heap.size, 0, none⟩), .slice none 0 0, .pointer (some ⟨w.heap.size + 1 + 1, 0, none⟩), .int .i64 ((j : Int) - 1), u5, u6, u7, undef, undef, .pointer (some ⟨w.heap.size, 0, none⟩), .string s, .int .i64 (s.size : Int), .int .i64 ((s.size : Int) + 1), .slice (some ⟨w.heap.size + 1, 0, none⟩) (s.size + 1) (s.size + 1), .pointer (some ⟨w.heap.size, 0, none⟩), .string s, .int .i64 (s.size : Int), u18, u19, u20, u21, u22, u23, u24, u25, u26, u27, u28, u29, u30, u31, u32, u33, u34, u35, u36, u37, u38, u39, u40, u41, undef, undef, undef, undef, undef, undef, undef, undef, undef, undef, undef, undef, undef, undef, undef, undef, undef, undef, undef, undef, undef, undef, undef, undef, undef, undef, undef, undef, undef, undef, undef, undef, undef, undef, undef, undef, undef, undef, u80, u81, u82, u83, u84, u85, u86, undef], defers := ds }) (s.size + 1) ?_ ?_
  · refine ⟨fun _ => 0, [], ?_⟩
    (repeat apply Exists.intro)
    refine ⟨⟨Nat.le_refl _, HO⟩, ?_⟩
    rw [show (((s.size + 1 : Nat) : Int) - 1) = (s.size : Int) by omega]
  · rintro j _ wr ⟨g, ds, u5, u6, u7, u18, u19, u20, u21, u22, u23, u24, u25, u26, u27, u28, u29, u30, u31, u32, u33, u34, u35, u36, u37, u38, u39, u40, u41, u80, u81, u82, u83, u84, u85, u86, ⟨hj, HK⟩, rfl⟩
    intro J K hJ hK
    by_cases hj0 : j = 0
    · subst hj0
      have c3 := HK.out.b3.cell 0
      simp only [List.getElem?_toArray, List.getElem?_cons_zero] at c3
      clear hJ
      go_wp2
      refine leaves_marks HK.out.mks HK.out.bel.size fun w' hw' => ?_
      refine ⟨_, results_tmp rfl _ _ _, w.heap.size + 1, g, rfl, hw'.blk HK.out.bo, fun i hi => hw'.blk (HK.out.br i (Nat.zero_le _) hi), HK.out.bel.trans hw'.bel⟩
    · obtain ⟨i, rfl⟩ : ∃ i, j = i + 1 := ⟨j - 1, by omega⟩
      have hi20 : i ≤ s.size := by omega
      rw [show ((i + 1 : Nat) : Int) - 1 = (i : Int) by omega]
      have c3 := HK.out.b3.cell 0
      have c1 := HK.out.b1.cell 1
      have co := (HK.out.bo.cell i).trans (rowsA_get (by omega))
      have fo := HK.out.bo.frozen i
      simp only [List.getElem?_toArray, List.getElem?_cons_zero, List.getElem?_cons_succ] at c3 c1
      rw [if_neg (by omega)] at co
      have hmk2 := run_mkrest (t.size + 1) (by omega)
      rw [show ((t.size + 1 : Nat) : Int) = (t.size : Int) + 1 by omega] at hmk2
      have hlti : (i : Int) < (s.size : Int) + 1 := by omega
      have l1 := HK.out.b1.lt
      have l3 := HK.out.b3.lt
      have lo := HK.out.bo.lt
      have HJ := hid hJ
      clear hJ
      go_wp2
      go_region
      obtain ⟨g2, HI⟩ : ∃ g2, Hid (InK w (((wr.setCell ⟨w.heap.size + 1, i, none⟩ (.slice (some ⟨wr.heap.size, 0, none⟩) (t.size + 1) (t.size + 1))).alloc (.cells (restA (t.size + 1) fun x => (0, 0)) 85)).drew) s t p c i (t.size + 1) g2 ds) := by
        refine ⟨fun j => if j = i then wr.heap.size else g j, hid ?_⟩
        have sz : (wr.setCell ⟨w.heap.size + 1, i, none⟩ (.slice (some ⟨wr.heap.size, 0, none⟩) (t.size + 1) (t.size + 1))).heap.size = wr.heap.size := by simp [World.setCell]
        have hnew := Blk.new (wr.setCell ⟨w.heap.size + 1, i, none⟩ (.slice (some ⟨wr.heap.size, 0, none⟩) (t.size + 1) (t.size + 1))) 85 (restA (t.size + 1) fun x => (0, 0))
        rw [sz] at hnew
        have e1 : w.heap.size ≠ w.heap.size + 1 := by omega
        have e3 : w.heap.size + 2 ≠ w.heap.size + 1 := by omega
        refine ⟨((HK.out.b1.far (p := ⟨w.heap.size + 1, i, none⟩) e1 _).alloc _).drewN 1, ((HK.out.b3.far (p := ⟨w.heap.size + 1, i, none⟩) e3 _).alloc _).drewN 1, ?_, fun i' h1 h2 => ?_, ?_, fun i' h1 h2 => ?_, ?_, ?_, ((HK.out.mks.setCell _ _).alloc _).drewN 1⟩
        · have := HK.out.bo.set_ i (.slice (some ⟨wr.heap.size, 0, none⟩) (t.size + 1) (t.size + 1))
          rw [rowsA_set _ (by omega)] at this
          exact (this.alloc _).drewN 1
        · have hne : ¬ i' = i := by omega
          simp only [if_neg hne]
          have hb := HK.out.br i' (by omega) h2
          exact ((hb.far (p := ⟨w.heap.size + 1, i, none⟩) (hb.ne_ HK.out.bo (by decide)) _).alloc _).drewN 1
        · simp only [if_true]
          rw [restA_congr (g := fun _ => (0, 0)) (fun k hk => if_neg (by omega))]
          exact hnew.drewN 1
        · have hne : ¬ i' = i := by omega
          simp only [if_neg hne, if_true]
          have := (HK.out.br i' (by omega) h2).lt
          omega
        · simp only [if_true]
          exact HK.out.bel.size
        · exact bdn ((HK.out.bel.setCell (p := ⟨w.heap.size + 1, i, none⟩) (by show w.heap.size ≤ w.heap.size + 1; omega) _).alloc (by rw [sz]; exact HK.out.bel.size) _) 1
      generalize ((wr.setCell ⟨w.heap.size + 1, i, none⟩ (.slice (some ⟨wr.heap.size, 0, none⟩) (t.size + 1) (t.size + 1))).alloc (.cells (restA (t.size + 1) fun x => (0, 0)) 85)).drew = w2 at HI ⊢
      clear HK c3 c1 co fo hmk2 l1 l3 lo
      have c1 := HI.out.b1.cell 1
      simp only [List.getElem?_toArray, List.getElem?_cons_zero, List.getElem?_cons_succ] at c1
      go_wp2
      clear c1
      refine wp_loop_ghost_k (fun k a wr => ∃ (ds : List Deferred) (u6 u7 u18 u19 u20 u21 u22 u23 u24 u25 u26 u27 u28 u29 u30 u31 u32 u33 u34 u35 u36 u37 u38 u39 u40 u41 u80 u81 u82 u83 u84 u85 u86 : Value), (k ≤ t.size + 1 ∧ Hid (InK w wr s t p c i k g2 ds)) ∧ a = { tmps := #[.agg #[.string s, .string t, .int .i64 (p : Int), .int .i64 (c : Int)], .pointer (some ⟨w.heap.size, 0, none⟩), .slice none 0 0, .pointer (some ⟨w.heap.size + 1 + 1, 0, none⟩), .int .i64 (i : Int), .int .i64 ((k : Int) - 1), u6, u7, undef, undef, .pointer (some ⟨w.heap.size, 0, none⟩), .string s, .int .i64 (s.size : Int), .int .i64 ((s.size : Int) + 1), .slice (some ⟨w.heap.size + 1, 0, none⟩) (s.size + 1) (s.size + 1), .pointer (some ⟨w.heap.size, 0, none⟩), .string s, .int .i64 (s.size : Int), u18, u19, u20, u21, u22, u23, u24, u25, u26, u27, u28, u29, u30, u31, u32, u33, u34, u35, u36, u37, u38, u39, u40, u41, undef, undef, undef, undef, undef, undef, undef, undef, undef, undef, undef, undef, undef, undef, undef, undef, undef, undef, undef, undef, undef, undef, undef, undef, undef, undef, undef, undef, undef, undef, undef, undef, undef, undef, undef, undef, undef, undef, u80, u81, u82, u83, u84, u85, u86, undef], defers := ds }) (t.size + 1) ?_ ?_
      · refine ⟨ds, ?_⟩
        (repeat apply Exists.intro)
        refine ⟨⟨Nat.le_refl _, HI⟩, ?_⟩
        rw [show (((t.size + 1 : Nat) : Int) - 1) = (t.size : Int) by omega]
      · clear HI
        rintro k _ wr ⟨ds, u6, u7, u18, u19, u20, u21, u22, u23, u24, u25, u26, u27, u28, u29, u30, u31, u32, u33, u34, u35, u36, u37, u38, u39, u40, u41, u80, u81, u82, u83, u84, u85, u86, ⟨hk, HI⟩, rfl⟩
        intro J2 K2 hJ2 hK2
        by_cases hk0 : k = 0
        · subst hk0
          clear hJ2
          go_wp2
          refine Handed.intro i (by omega) (HJ.out _ _ _ ?_)
          refine ⟨g2, ds, ?_⟩
          (repeat apply Exists.intro)
          refine ⟨⟨by omega, hid ⟨HI.out.b1, HI.out.b3, HI.out.bo, fun i' h1 h2 => ?_, HI.out.bel, HI.out.mks⟩⟩, rfl⟩
          by_cases e : i' = i
          · subst e
            have := HI.out.bc
            rwa [restA_congr (g := val s t p c i') (fun k _ => if_pos (Nat.zero_le _))] at this
          · exact HI.out.br i' (by omega) h2
        · obtain ⟨k, rfl⟩ : ∃ k', k = k' + 1 := ⟨k - 1, by omega⟩
          rw [show ((k + 1 : Nat) : Int) - 1 = (k : Int) by omega]
          have hk20 : k ≤ t.size := by omega
          have HJ2 := hid hJ2
          have d0 := HI.out.b1.cell 0
          have d1 := HI.out.b1.cell 1
          have d2 := HI.out.b1.cell 2
          have d3 := HI.out.b1.cell 3
          simp only [List.getElem?_toArray, List.getElem?_cons_zero, List.getElem?_cons_succ] at d0 d1 d2 d3
          have l1 := HI.out.b1.lt
          clear hJ2
          go_wp2_with (go_at_call 63; refine (steps_any _ _ _ _ _ _ _).mono ?_; rintro e w' ⟨rfl, rfl⟩)
          have hSB : SB (((((wr.alloc (.cells #[.int .i64 0, .int .i64 1] 85)).alloc (.cells #[.bool true] 4)).alloc (.cells #[.string s, .string t, .int .i64 (p : Int), .int .i64 (c : Int)] 72)).alloc (.cells #[.int .i64 (i : Int)] 3)).alloc (.cells #[.int .i64 (k : Int)] 3)) s t p c i k (wr.heap.size + 1 + 1 + 1) (wr.heap.size + 1 + 1) (wr.heap.size + 1 + 1 + 1 + 1) :=
            ⟨by simpa using (Blk.new (((wr.alloc (.cells #[.int .i64 0, .int .i64 1] 85)).alloc (.cells #[.bool true] 4)).alloc (.cells #[.string s, .string t, .int .i64 (p : Int), .int .i64 (c : Int)] 72)) 3 #[.int .i64 (i : Int)]).alloc (.cells #[.int .i64 (k : Int)] 3),
             by simpa using ((Blk.new ((wr.alloc (.cells #[.int .i64 0, .int .i64 1] 85)).alloc (.cells #[.bool true] 4)) 72 #[.string s, .string t, .int .i64 (p : Int), .int .i64 (c : Int)]).alloc (.cells #[.int .i64 (i : Int)] 3)).alloc (.cells #[.int .i64 (k : Int)] 3),
             by simpa using Blk.new ((((wr.alloc (.cells #[.int .i64 0, .int .i64 1] 85)).alloc (.cells #[.bool true] 4)).alloc (.cells #[.string s, .string t, .int .i64 (p : Int), .int .i64 (c : Int)] 72)).alloc (.cells #[.int .i64 (i : Int)] 3)) 3 #[.int .i64 (k : Int)]⟩
          have hRI : RI wr (((((wr.alloc (.cells #[.int .i64 0, .int .i64 1] 85)).alloc (.cells #[.bool true] 4)).alloc (.cells #[.string s, .string t, .int .i64 (p : Int), .int .i64 (c : Int)] 72)).alloc (.cells #[.int .i64 (i : Int)] 3)).alloc (.cells #[.int .i64 (k : Int)] 3)) (bst (cand s t p c) []) true :=
            ⟨((((Blk.new wr 85 #[.int .i64 0, .int .i64 1]).alloc _).alloc _).alloc _).alloc _, by simpa using (((Blk.new (wr.alloc (.cells #[.int .i64 0, .int .i64 1] 85)) 4 #[.bool true]).alloc _).alloc _).alloc _,
             (((((box_bel wr _).trans ((box_bel _ _).mono (by simp))).trans ((box_bel _ _).mono (by simp; omega))).trans ((box_bel _ _).mono (by simp; omega))).trans ((box_bel _ _).mono (by simp; omega))), by simp⟩
          have hsz0 : (((((wr.alloc (.cells #[.int .i64 0, .int .i64 1] 85)).alloc (.cells #[.bool true] 4)).alloc (.cells #[.string s, .string t, .int .i64 (p : Int), .int .i64 (c : Int)] 72)).alloc (.cells #[.int .i64 (i : Int)] 3)).alloc (.cells #[.int .i64 (k : Int)] 3)).heap.size = wr.heap.size + 5 := by simp
          generalize (((((wr.alloc (.cells #[.int .i64 0, .int .i64 1] 85)).alloc (.cells #[.bool true] 4)).alloc (.cells #[.string s, .string t, .int .i64 (p : Int), .int .i64 (c : Int)] 72)).alloc (.cells #[.int .i64 (i : Int)] 3)).alloc (.cells #[.int .i64 (k : Int)] 3)) = w0 at hSB hRI hsz0 ⊢
          clear d0 d1 d2 d3 l1
          refine wp_rangeFunc (gf := 87) (lb := #[.pointer (some ⟨wr.heap.size + 1 + 1 + 1, 0, none⟩), .pointer (some ⟨wr.heap.size + 1 + 1, 0, none⟩), .pointer (some ⟨wr.heap.size + 1 + 1 + 1 + 1, 0, none⟩)]) rfl (enters_of Tryd.func87 (by kernel_rfl) rfl)
            (steps_stops 9 (by omega) s t p c i k _ _ _ w0 (by omega) (by omega) (by omega) (by omega) hSB) Kp3.trans (Kp3.put (by omega) (by omega) (by omega)) (fun _ => rfl)
            (fun pre W => RI wr W (bst (cand s t p c) (pre.map Subtype.val)) pre.isEmpty) (fun _ _ _ => False) (ri_own (by omega) (fun pre : List (StS s.data.toList t.data.toList p c i k) => bst (cand s t p c) (pre.map Subtype.val)) (fun pre => pre.isEmpty)) (fun _ _ _ _ _ h _ _ => h) hRI
            (fun x a' W => ∃ Bx, (wr.heap.size + 4 < Bx ∧ Blk W Bx 79 #[.int .i64 x.val.1, .int .i64 x.val.2.1, .int .i64 x.val.2.2.1, .int .i64 x.val.2.2.2]) ∧ a' = { tmps := #[.agg #[.string s, .string t, .int .i64 (p : Int), .int .i64 (c : Int)], .pointer (some ⟨w.heap.size, 0, none⟩), .slice none 0 0, .pointer (some ⟨w.heap.size + 1 + 1, 0, none⟩), .int .i64 (i : Int), .int .i64 (k : Int), .pointer (some ⟨wr.heap.size, 0, none⟩), .pointer (some ⟨wr.heap.size + 1, 0, none⟩), .pointer (some ⟨Bx, 0, none⟩), undef, .pointer (some ⟨w.heap.size, 0, none⟩), .string s, .int .i64 (s.size : Int), .int .i64 ((s.size : Int) + 1), .slice (some ⟨w.heap.size + 1, 0, none⟩) (s.size + 1) (s.size + 1), .pointer (some ⟨w.heap.size, 0, none⟩), .string s, .int .i64 (s.size : Int), u18, u19, u20, u21, u22, u23, u24, u25, u26, u27, u28, u29, u30, u31, u32, .int .i64 (k : Int), .bool true, u35, u36, .agg #[.int .i64 0, .int .i64 1], .agg #[.string s, .string t, .int .i64 (p : Int), .int .i64 (c : Int)], .int .i64 (i : Int), .int .i64 (k : Int), .func (.func 87) #[] #[.pointer (some ⟨wr.heap.size + 1 + 1 + 1, 0, none⟩), .pointer (some ⟨wr.heap.size + 1 + 1, 0, none⟩), .pointer (some ⟨wr.heap.size + 1 + 1 + 1 + 1, 0, none⟩)], encS x.val, undef, undef, undef, undef, undef, undef, undef, undef, undef, undef, undef, undef, undef, undef, undef, undef, undef, undef, undef, undef, undef, undef, undef, undef, undef, undef, undef, undef, undef, undef, undef, undef, undef, undef, undef, undef, undef, u80, u81, u82, u83, u84, u85, u86, undef], defers := [] }) ?hAx ?assign ?body ?done ?stop
          case hAx =>
            rintro x a' _ W W' row ⟨Bx, ⟨h1, h2⟩, h3⟩ hg hr
            refine ⟨Bx, ⟨h1, ?_⟩, h3⟩
            refine (hg.block Bx h2.lt (fun e => ?_)).trans h2
            obtain ⟨_, o, ho, hc'⟩ := hr Bx e.symm
            unfold Blk at h2
            rw [h2] at ho
            cases ho
            cases hc'
          case assign =>
            rintro l pre ⟨⟨e, xi, xk, xc⟩, hx⟩ W K hi hK
            have sz := hi.sz
            dsimp only [encS]
            gi_wp2
            refine hK _ _ ((KeepsOthers.alloc W (.cells #[.int .i64 e, .int .i64 xi, .int .i64 xk, .int .i64 xc] 79)).from _) ⟨Below.heap_alloc W _ _ (by omega), Below.heap_alloc W _ _ (by omega), Below.heap_alloc W _ _ (by omega)⟩ ⟨hi.b6.alloc _, hi.b7.alloc _, hi.bel.alloc hi.bel.size _, by simp; omega⟩ ⟨W.heap.size, ⟨by omega, Blk.new _ _ _⟩, rfl⟩
          case body =>
            rintro l pre ⟨⟨e, xi, xk, xc⟩, hx⟩ a' W hl hI ⟨Bx, ⟨hBx, hX⟩, rfl⟩ hlen
            dsimp only [encS]
            obtain ⟨i', k', q, e1, e2, e3, hq, hcase⟩ := steps_mem hx
            dsimp only at e1 e2 e3
            subst e1 e2 e3
            have m1 : s.data.toList.length = s.size := by simp
            have m2 : t.data.toList.length = t.size := by simp
            rw [m1, m2] at hcase
            obtain ⟨co, cr0, cr1, lr⟩ := (HI.out.next hI.bel).row (i' := i') (k' := k') (by omega) (by omega) (by omega) (by omega)
            have c3 := (HI.out.next hI.bel).b3.cell 0
            have x0 := hX.cell 0
            have x1 := hX.cell 1
            have x2 := hX.cell 2
            have x3 := hX.cell 3
            have y0 := hI.b6.cell 0
            have y1 := hI.b6.cell 1
            have y2 := hI.b7.cell 0
            have z0 := hI.b6.frozen 0
            have z1 := hI.b6.frozen 1
            have z2 := hI.b7.frozen 0
            simp only [List.getElem?_toArray, List.getElem?_cons_zero, List.getElem?_cons_succ] at c3 x0 x1 x2 x3 y0 y1 y2
            have lx := hX.lt
            have sz := hI.sz
            have l3 := (HI.out.next hI.bel).b3.lt
            have lo := (HI.out.next hI.bel).bo.lt
            have bi1 : (i' : Int) < (s.size : Int) + 1 := by omega
            have bk1 : (k' : Int) < (t.size : Int) + 1 := by omega
            have hmx : Tryd.prog.follows .mixedOrders = true := by kernel_rfl
            have HX := hid hX
            have HII := hid hI
            have HCS := hid hcase
            clear m1 m2 hcase hX hI
            gi_wp2
            refine wpIn_region_held (S := fun w' => Below W.heap.size W w') hmx (by kernel_rfl) (fun _ _ h => h) ?_
            have hS : Hid (Below W.heap.size W W.drew) := hid ⟨rfl, rfl, rfl, Nat.le_refl _, fun _ _ => rfl⟩
            refine takeR (i := 0) (v := ?_) rfl (by kernel_rfl) (by kernel_rfl) (by kernel_rfl) (by rfl) ?_ hS.out ?_
            rotate_left
            · intro w' hw'
              have sc3 := bcof hw' c3
              clear hw'
              go_simp <;> with_reducible rfl
            simp only [Act.put, List.setIfInBounds_toArray, List.set_cons_zero, List.set_cons_succ]
            refine takeR (i := 1) (v := ?_) rfl (by kernel_rfl) (by kernel_rfl) (by kernel_rfl) (by rfl) ?_ hS.out ?_
            rotate_left
            · intro w' hw'
              clear hw'
              go_simp <;> with_reducible rfl
            simp only [Act.put, List.setIfInBounds_toArray, List.set_cons_zero, List.set_cons_succ]
            refine takeR (i := 2) (v := ?_) rfl (by kernel_rfl) (by kernel_rfl) (by kernel_rfl) (by rfl) ?_ hS.out ?_
            rotate_left
            · intro w' hw'
              have sx1 := bcof hw' x1
              clear hw'
              go_simp <;> with_reducible rfl
            simp only [Act.put, List.setIfInBounds_toArray, List.set_cons_zero, List.set_cons_succ]
            refine takeR (i := 3) (v := ?_) rfl (by kernel_rfl) (by kernel_rfl) (by kernel_rfl) (by rfl) ?_ hS.out ?_
            rotate_left
            · intro w' hw'
              clear hw'
              go_simp <;> with_reducible rfl
            simp only [Act.put, List.setIfInBounds_toArray, List.set_cons_zero, List.set_cons_succ]
            refine takeR (i := 4) (v := ?_) rfl (by kernel_rfl) (by kernel_rfl) (by kernel_rfl) (by rfl) ?_ hS.out ?_
            rotate_left
            · intro w' hw'
              have sco := bcof hw' co
              clear hw'
              go_simp <;> with_reducible rfl
            simp only [Act.put, List.setIfInBounds_toArray, List.set_cons_zero, List.set_cons_succ]
            refine takeR (i := 5) (v := ?_) rfl (by kernel_rfl) (by kernel_rfl) (by kernel_rfl) (by rfl) ?_ hS.out ?_
            rotate_left
            · intro w' hw'
              clear hw'
              go_simp <;> with_reducible rfl
            simp only [Act.put, List.setIfInBounds_toArray, List.set_cons_zero, List.set_cons_succ]
            refine takeR (i := 6) (v := ?_) rfl (by kernel_rfl) (by kernel_rfl) (by kernel_rfl) (by rfl) ?_ hS.out ?_
            rotate_left
            · intro w' hw'
              have sx2 := bcof hw' x2
              clear hw'
              go_simp <;> with_reducible rfl
            simp only [Act.put, List.setIfInBounds_toArray, List.set_cons_zero, List.set_cons_succ]
            refine takeR (i := 7) (v := ?_) rfl (by kernel_rfl) (by kernel_rfl) (by kernel_rfl) (by rfl) ?_ hS.out ?_
            rotate_left
            · intro w' hw'
              clear hw'
              go_simp <;> with_reducible rfl
            simp only [Act.put, List.setIfInBounds_toArray, List.set_cons_zero, List.set_cons_succ]
            refine takeR (i := 8) (v := ?_) rfl (by kernel_rfl) (by kernel_rfl) (by kernel_rfl) (by rfl) ?_ hS.out ?_
            rotate_left
            · intro w' hw'
              have scr0 := bcof hw' cr0
              have scr1 := bcof hw' cr1
              clear hw'
              go_simp <;> with_reducible rfl
            simp only [Act.put, List.setIfInBounds_toArray, List.set_cons_zero, List.set_cons_succ]
            refine oneR (i := 9) rfl (by kernel_rfl) (by rfl) fun K9 hK9 => ?_
            go_simp
            refine hK9.out _ _ (bdn (box_bel W _) 1) ?_
            clear hK9 K9
            refine oneR (i := 10) rfl (by kernel_rfl) (by rfl) fun K9 hK9 => ?_
            go_simp
            refine hK9.out _ _ (bdn (box_bel W _) 1) ?_
            clear hK9 K9
            refine doneR (by kernel_rfl) ?_
            obtain ⟨r1, r2, hr⟩ : ∃ r1 r2, val s t p c i' k' = (r1, r2) := ⟨_, _, rfl⟩
            have br1 : r1 ≤ 360 := by have := val_cost (p := p) (c := c) (i := i') (k := k') hs ht hp; rw [hr] at this; exact this
            have br2 : r2 ≤ 3 ^ 38 := by have := val_ways (p := p) (c := c) (i := i') (k := k') hs ht (by have := HCS.out; omega) (by have := HCS.out; omega) (by have := HCS.out; omega); rw [hr] at this; exact this
            have hq9 : q ≤ 9 := by omega
            have hcand : cand s t p c (e, (i' : Int), (k' : Int), (q : Int)) = (q + r1, r2) := by
              unfold cand add1
              simp only [Int.toNat_natCast, hr]
            have hKW : KeepsOthers W ((W.alloc (Obj.cells #[.int .i64 ((val s t p c i' k').1 : Int), .int .i64 ((val s t p c i' k').2 : Int)] 85)).drew) ∧ Kp3 (wr.heap.size + 1 + 1 + 1) (wr.heap.size + 1 + 1) (wr.heap.size + 1 + 1 + 1 + 1) W ((W.alloc (Obj.cells #[.int .i64 ((val s t p c i' k').1 : Int), .int .i64 ((val s t p c i' k').2 : Int)] 85)).drew) :=
              ⟨(KeepsOthers.alloc W _).trans (KeepsOthers.drew _), Below.heap_alloc W _ _ (by omega), Below.heap_alloc W _ _ (by omega), Below.heap_alloc W _ _ (by omega)⟩
            have hT : Blk ((W.alloc (Obj.cells #[.int .i64 ((val s t p c i' k').1 : Int), .int .i64 ((val s t p c i' k').2 : Int)] 85)).drew) W.heap.size 85 #[.int .i64 (r1 : Int), .int .i64 (r2 : Int)] := by
              have := (Blk.new W 85 #[.int .i64 ((val s t p c i' k').1 : Int), .int .i64 ((val s t p c i' k').2 : Int)]).drewN 1
              rw [hr] at this ⊢
              exact this
            have h6 := (HII.out.b6.alloc (Obj.cells #[.int .i64 ((val s t p c i' k').1 : Int), .int .i64 ((val s t p c i' k').2 : Int)] 85)).drewN 1
            have h7 := (HII.out.b7.alloc (Obj.cells #[.int .i64 ((val s t p c i' k').1 : Int), .int .i64 ((val s t p c i' k').2 : Int)] 85)).drewN 1
            have hB := bdn (HII.out.bel.alloc HII.out.bel.size (Obj.cells #[.int .i64 ((val s t p c i' k').1 : Int), .int .i64 ((val s t p c i' k').2 : Int)] 85)) 1
            have hX2 := (HX.out.alloc (Obj.cells #[.int .i64 ((val s t p c i' k').1 : Int), .int .i64 ((val s t p c i' k').2 : Int)] 85)).drewN 1
            have sz2 : ((W.alloc (Obj.cells #[.int .i64 ((val s t p c i' k').1 : Int), .int .i64 ((val s t p c i' k').2 : Int)] 85)).drew).heap.size = W.heap.size + 1 := by simp
            rw [hr]
            change Blk ((W.alloc (Obj.cells #[.int .i64 ((val s t p c i' k').1 : Int), .int .i64 ((val s t p c i' k').2 : Int)] 85)).drew) _ _ _ at h6
            change Blk ((W.alloc (Obj.cells #[.int .i64 ((val s t p c i' k').1 : Int), .int .i64 ((val s t p c i' k').2 : Int)] 85)).drew) _ _ _ at h7
            change Blk ((W.alloc (Obj.cells #[.int .i64 ((val s t p c i' k').1 : Int), .int .i64 ((val s t p c i' k').2 : Int)] 85)).drew) _ _ _ at hX2
            change Below _ _ ((W.alloc (Obj.cells #[.int .i64 ((val s t p c i' k').1 : Int), .int .i64 ((val s t p c i' k').2 : Int)] 85)).drew) at hB
            rw [hr] at h6 h7 hX2 hB sz2 hKW hT
            clear co cr0 cr1 lr c3 x0 x1 x2 x3 y0 y1 y2 z0 z1 z2 hS
            dsimp only at h6 h7 hX2 hB sz2 hKW hT ⊢
            generalize (W.alloc (Obj.cells #[.int .i64 (r1 : Int), .int .i64 (r2 : Int)] 85)).drew = w3 at h6 h7 hX2 hB sz2 hKW hT ⊢
            have x3 := hX2.cell 3
            have t0 := hT.cell 0
            have t1 := hT.cell 1
            have f0 := hT.frozen 0
            have z0 := h6.frozen 0
            have z1 := h6.frozen 1
            have z2 := h7.frozen 0
            have y0 := h6.cell 0
            have y1 := h6.cell 1
            have y2 := h7.cell 0
            simp only [List.getElem?_toArray, List.getElem?_cons_zero, List.getElem?_cons_succ] at x3 t0 t1 y0 y1 y2
            have n1 : wr.heap.size ≠ W.heap.size := by omega
            have n2 : wr.heap.size + 1 ≠ W.heap.size := by omega
            have n3 : Bx ≠ W.heap.size := by omega
            have n4 : W.heap.size ≠ wr.heap.size := by omega
            have n5 : W.heap.size ≠ wr.heap.size + 1 := by omega
            have HI2 : Hid (RI wr w3 (bst (cand s t p c) (pre.map Subtype.val)) pre.isEmpty) := hid ⟨h6, h7, hB, by omega⟩
            have HKW := hid hKW
            clear h6 h7 hT hKW hB hX2 HX HII
            cases pre with
            | nil =>
              dsimp only [List.map_nil, List.isEmpty_nil, bst] at y0 y1 y2
              gi_wp2
              have hk := kp_set (kp_set (kp_set (kp_set HKW.out ⟨W.heap.size, 0, none⟩ (.int .i64 ((r1 : Int) + (q : Int))) (by show _ ≠ W.heap.size; omega) (by show _ ≠ W.heap.size; omega) (by show _ ≠ W.heap.size; omega)) ⟨wr.heap.size, 0, none⟩ (.int .i64 ((r1 : Int) + (q : Int))) (by show _ ≠ wr.heap.size; omega) (by show _ ≠ wr.heap.size; omega) (by show _ ≠ wr.heap.size; omega))
                ⟨wr.heap.size, 1, none⟩ (.int .i64 (r2 : Int)) (by show _ ≠ wr.heap.size; omega) (by show _ ≠ wr.heap.size; omega) (by show _ ≠ wr.heap.size; omega)) ⟨wr.heap.size + 1, 0, none⟩ (.bool false) (by show _ ≠ wr.heap.size + 1; omega) (by show _ ≠ wr.heap.size + 1; omega) (by show _ ≠ wr.heap.size + 1; omega)
              refine ⟨hk.1.from _, hk.2, ?_⟩
              have hb : bst (cand s t p c) (List.map Subtype.val ([] ++ [(⟨(e, (i' : Int), (k' : Int), (q : Int)), hx⟩ : StS s.data.toList t.data.toList p c i k)])) = (q + r1, r2) := hcand
              dsimp only
              rw [hb, show (r1 : Int) + (q : Int) = ((q + r1 : Nat) : Int) by omega]
              exact (((HI2.out.far (by omega) _).set0 _).set1 _).setF
            | cons x0 pre => 
              have hbnd := bst_bound (f := cand s t p c) (A := 369) (B := 3 ^ 38) (by decide) ((x0 :: pre).map Subtype.val) (fun y hy => by
                obtain ⟨z, _, rfl⟩ := List.mem_map.1 hy
                obtain ⟨i2, k2, q2, e1, e2, e3, h4, h5⟩ := steps_mem z.2
                have l1 : s.data.toList.length = s.size := by simp
                have l2 : t.data.toList.length = t.size := by simp
                rw [l1, l2] at h5
                have v1 := val_cost (p := p) (c := c) (i := i2) (k := k2) hs ht hp
                have v2 := val_ways (p := p) (c := c) (i := i2) (k := k2) hs ht (by omega) (by omega) (by omega)
                unfold cand add1
                rw [e1, e2, e3]
                simp only [Int.toNat_natCast]
                exact ⟨by omega, v2⟩)
              have hsn : bst (cand s t p c) (List.map Subtype.val (x0 :: pre ++ [(⟨(e, (i' : Int), (k' : Int), (q : Int)), hx⟩ : StS s.data.toList t.data.toList p c i k)])) = mrg (bst (cand s t p c) ((x0 :: pre).map Subtype.val)) (q + r1, r2) := by
                rw [List.map_append, List.map_singleton, bst_snoc _ _ _ (by simp), hcand]
              have hem : (x0 :: pre ++ [(⟨(e, (i' : Int), (k' : Int), (q : Int)), hx⟩ : StS s.data.toList t.data.toList p c i k)]).isEmpty = false := rfl
              rw [List.length_map] at hbnd
              dsimp only [List.isEmpty_cons] at y2
              have HSN := hid hsn
              generalize bst (cand s t p c) ((x0 :: pre).map Subtype.val) = b at y0 y1 hbnd HSN HI2
              obtain ⟨b1, b2⟩ := b
              dsimp only at y0 y1 hbnd
              have hb2 : (b2 : Int) + (r2 : Int) < 9223372036854775808 := by
                have h1 : ((x0 :: pre).length + 1) * 3 ^ 38 ≤ 3 * 3 ^ 38 := Nat.mul_le_mul_right _ (by omega)
                have h2 : (3 : Nat) * 3 ^ 38 + 3 ^ 38 < 9223372036854775808 := by decide
                have h3 := hbnd.2
                omega
              clear hsn hcand br2
              rcases Nat.lt_trichotomy (q + r1) b1 with hlt | hlt | hlt
              · have hl : (r1 : Int) + (q : Int) < (b1 : Int) := by omega
                gi_wp2
                have hk := kp_set (kp_set (kp_set (kp_set HKW.out ⟨W.heap.size, 0, none⟩ (.int .i64 ((r1 : Int) + (q : Int))) (by show _ ≠ W.heap.size; omega) (by show _ ≠ W.heap.size; omega) (by show _ ≠ W.heap.size; omega)) ⟨wr.heap.size, 0, none⟩ (.int .i64 ((r1 : Int) + (q : Int))) (by show _ ≠ wr.heap.size; omega) (by show _ ≠ wr.heap.size; omega) (by show _ ≠ wr.heap.size; omega))
                  ⟨wr.heap.size, 1, none⟩ (.int .i64 (r2 : Int)) (by show _ ≠ wr.heap.size; omega) (by show _ ≠ wr.heap.size; omega) (by show _ ≠ wr.heap.size; omega)) ⟨wr.heap.size + 1, 0, none⟩ (.bool false) (by show _ ≠ wr.heap.size + 1; omega) (by show _ ≠ wr.heap.size + 1; omega) (by show _ ≠ wr.heap.size + 1; omega)
                refine ⟨hk.1.from _, hk.2, ?_⟩
                dsimp only
                rw [HSN.out, hem, mrg_lt hlt, show (r1 : Int) + (q : Int) = ((q + r1 : Nat) : Int) by omega]
                exact (((HI2.out.far (by omega) _).set0 _).set1 _).setF
              · have hl : decide ((r1 : Int) + (q : Int) < (b1 : Int)) = false := by simp; omega
                have hl2 : (r1 : Int) + (q : Int) = (b1 : Int) := by omega
                gi_wp2
                have hk := kp_set (kp_set (kp_set HKW.out ⟨W.heap.size, 0, none⟩ (.int .i64 (b1 : Int)) (by show _ ≠ W.heap.size; omega) (by show _ ≠ W.heap.size; omega) (by show _ ≠ W.heap.size; omega))
                  ⟨wr.heap.size, 1, none⟩ (.int .i64 ((b2 : Int) + (r2 : Int))) (by show _ ≠ wr.heap.size; omega) (by show _ ≠ wr.heap.size; omega) (by show _ ≠ wr.heap.size; omega)) ⟨wr.heap.size + 1, 0, none⟩ (.bool false) (by show _ ≠ wr.heap.size + 1; omega) (by show _ ≠ wr.heap.size + 1; omega) (by show _ ≠ wr.heap.size + 1; omega)
                refine ⟨hk.1.from _, hk.2, ?_⟩
                dsimp only
                rw [HSN.out, hem, hlt, mrg_eq, show (b2 : Int) + (r2 : Int) = ((b2 + r2 : Nat) : Int) by omega]
                exact ((HI2.out.far (by omega) _).set1 _).setF
              · have hl : decide ((r1 : Int) + (q : Int) < (b1 : Int)) = false := by simp; omega
                have hl2 : ((r1 : Int) + (q : Int) == (b1 : Int)) = false := by simp; omega
                gi_wp2
                have hk := kp_set (kp_set HKW.out ⟨W.heap.size, 0, none⟩ (.int .i64 ((r1 : Int) + (q : Int))) (by show _ ≠ W.heap.size; omega) (by show _ ≠ W.heap.size; omega) (by show _ ≠ W.heap.size; omega))
                  ⟨wr.heap.size + 1, 0, none⟩ (.bool false) (by show _ ≠ wr.heap.size + 1; omega) (by show _ ≠ wr.heap.size + 1; omega) (by show _ ≠ wr.heap.size + 1; omega)
                refine ⟨hk.1.from _, hk.2, ?_⟩
                dsimp only
                rw [HSN.out, hem, mrg_gt hlt]
                exact (HI2.out.far (by omega) _).setF
          case done =>
            intro D xs W hD hxs hI hM
            rw [hxs, bst_val] at hI
            have HN := hid (HI.out.next hI.bel)
            have co := (HN.out.bo.cell i).trans (rowsA_get (by omega))
            rw [if_pos (Nat.le_refl _)] at co
            have c3 := HN.out.b3.cell 0
            have y0 := hI.b6.cell 0
            have y1 := hI.b6.cell 1
            have z0 := HN.out.bc.frozen (k * 2)
            have z1 := HN.out.bc.frozen (k * 2 + 1)
            simp only [List.getElem?_toArray, List.getElem?_cons_zero, List.getElem?_cons_succ] at c3 y0 y1
            have bi1 : (i : Int) < (s.size : Int) + 1 := by omega
            have bk1 : (k : Int) < (t.size : Int) + 1 := by omega
            have HII := hid hI
            clear hI
            have hb := restA_get (f := fun j => if k + 1 ≤ j then val s t p c i j else (0, 0)) (N := t.size + 1) (k := k) (by omega)
            simp only [if_neg (show ¬ k + 1 ≤ k by omega)] at hb
            have m0 := (HN.out.bc.cell (k * 2)).trans hb.1
            have m1 := (HN.out.bc.cell (k * 2 + 1)).trans hb.2
            have hdd : wr.heap.size ≤ D := by omega
            clear hb
            go_wp2
            go_region
            go_wp2
            refine Handed.intro k (by omega) (HJ2.out _ _ _ ?_)
            refine ⟨{ target := .collected D, args := #[] } :: ds, ?_⟩
            (repeat apply Exists.intro)
            refine ⟨⟨by omega, hid ?_⟩, rfl⟩
            have e1 : w.heap.size ≠ g2 i := HN.out.b1.ne_ HN.out.bc (by decide)
            have e3 : w.heap.size + 2 ≠ g2 i := HN.out.b3.ne_ HN.out.bc (by decide)
            have eo : w.heap.size + 1 ≠ g2 i := HN.out.bo.ne_ HN.out.bc (by decide)
            refine ⟨((HN.out.b1.far (p := ⟨g2 i, k * 2, none⟩) e1 _).far (p := ⟨g2 i, k * 2 + 1, none⟩) e1 _).drewN 1, ((HN.out.b3.far (p := ⟨g2 i, k * 2, none⟩) e3 _).far (p := ⟨g2 i, k * 2 + 1, none⟩) e3 _).drewN 1,
              ((HN.out.bo.far (p := ⟨g2 i, k * 2, none⟩) eo _).far (p := ⟨g2 i, k * 2 + 1, none⟩) eo _).drewN 1,
              fun i' h1 h2 => (((HN.out.br i' h1 h2).far (p := ⟨g2 i, k * 2, none⟩) (HN.out.ne i' h1 h2) _).far (p := ⟨g2 i, k * 2 + 1, none⟩) (HN.out.ne i' h1 h2) _).drewN 1, ?_, HN.out.ne, HN.out.lo,
              bdn ((HN.out.bel.setCell (p := ⟨g2 i, k * 2, none⟩) HN.out.lo _).setCell (p := ⟨g2 i, k * 2 + 1, none⟩) HN.out.lo _) 1,
              (((HN.out.mks.setCell _ _).setCell _ _).drewN 1).push HI.out.mks (Nat.le_trans HI.out.bel.size hdd) ?_ hdd⟩
            · have h1 := (((HN.out.bc.set_ (k * 2) (.int .i64 ((val s t p c i k).1 : Int))).set_ (k * 2 + 1) (.int .i64 ((val s t p c i k).2 : Int)))).drewN 1
              rw [restA_set (by omega)] at h1
              rw [restA_congr (g := fun j => if j = k then ((val s t p c i k).1, (val s t p c i k).2) else if k + 1 ≤ j then val s t p c i j else (0, 0)) (fun j hj => ?_)]
              · exact h1
              · by_cases e : j = k
                · subst e; simp
                · by_cases h : k ≤ j
                  · have h2 : k + 1 ≤ j := by omega
                    simp only [if_pos h, if_neg e, if_pos h2]
                  · have h2 : ¬ k + 1 ≤ j := by omega
                    simp only [if_neg h, if_neg e, if_neg h2]
            · exact ((KeepsOthers.setCell _ _ _).trans (KeepsOthers.setCell _ _ _)).same D _ hM rfl
          case stop =>
            intro D c pre W _ _ h _
            exact h.elim
end Go.Proofs.YtmhlgnhfbickdaaDoor
