/-
  Loops over the steps: the law for a plain walk, the marks that such loops leave, tables of rests in memory. Conditions: stated at each.
-/
import Derived.Test.YtmhlgnhfbickdaaDoorP2
import Derived.Test.YtmhlgnhfbickdaaDoorMath2
namespace Go.Proofs.YtmhlgnhfbickdaaDoor
set_option linter.unusedVariables false
set_option linter.unusedSimpArgs false
open Go.RowKit Go.Shelf

/-! ### marks among the deferred calls -/
def mkD (D : Nat) : Deferred := { target := .collected D, args := #[] }
def Marks (B : Nat) (w : World) (ds : List Deferred) : Prop := ∃ L : List Nat, ds = L.map mkD ∧ L.Nodup ∧ ∀ D ∈ L, B ≤ D ∧ w.heap[D]? = some (.deferred (some []))
theorem Marks.nil (B : Nat) (w : World) : Marks B w [] := ⟨[], rfl, List.nodup_nil, by simp⟩
theorem Marks.kept {B : Nat} {w w' : World} {ds : List Deferred} (h : Marks B w ds) (hk : ∀ (k : Nat) (o : Obj), w.heap[k]? = some o → o.isCells = false → w'.heap[k]? = some o) : Marks B w' ds := by
  obtain ⟨L, h1, h2, h3⟩ := h
  exact ⟨L, h1, h2, fun D hD => ⟨(h3 D hD).1, hk D _ (h3 D hD).2 rfl⟩⟩
theorem Marks.below {B : Nat} {w w' : World} {ds : List Deferred} (h : Marks B w ds) (hb : Below w.heap.size w w') : Marks B w' ds :=
  h.kept fun k o hk _ => (hb.block k (Array.getElem?_eq_some_iff.1 hk).1).trans hk
theorem Marks.setCell {B : Nat} {w : World} {ds : List Deferred} (h : Marks B w ds) (a : Addr) (v : Value) : Marks B (w.setCell a v) ds :=
  h.kept fun k o hk ho => (KeepsOthers.setCell w a v).same k o hk ho
theorem Marks.drewN {B : Nat} {w : World} {ds : List Deferred} (h : Marks B w ds) (m : Nat) : Marks B (w.drewN m) ds := h
theorem Marks.alloc {B : Nat} {w : World} {ds : List Deferred} (h : Marks B w ds) (o : Obj) : Marks B (w.alloc o) ds := h.below (box_bel _ _)
theorem Marks.push {B D : Nat} {w w0 : World} {ds : List Deferred} (h : Marks B w ds) (h0 : Marks B w0 ds) (hB : B ≤ D) (hD : w.heap[D]? = some (.deferred (some []))) (hn : w0.heap.size ≤ D) : Marks B w ({ target := .collected D, args := #[] } :: ds) := by
  obtain ⟨L, h1, h2, h3⟩ := h
  obtain ⟨L0, k1, _, k3⟩ := h0
  refine ⟨D :: L, by rw [h1]; rfl, List.nodup_cons.2 ⟨fun hm => ?_, h2⟩, fun E hE => ?_⟩
  · have h5 : mkD D ∈ L0.map mkD := by rw [← k1, h1]; exact List.mem_map_of_mem hm
    obtain ⟨E, hE, he⟩ := List.mem_map.1 h5
    have he : E = D := by unfold mkD at he; injection he with he; injection he
    subst he
    have := (Array.getElem?_eq_some_iff.1 (k3 E hE).2).1
    omega
  · rcases List.mem_cons.1 hE with rfl | hE
    · exact ⟨hB, hD⟩
    · exact h3 E hE
/-- the marks' blocks are shut -/
structure ShutL (B : Nat) (w w' : World) : Prop where
  bel : Below B w w'
  cells : ∀ (g : Nat) (o : Obj), w.heap[g]? = some o → o.isCells = true → w'.heap[g]? = some o
theorem ShutL.blk {B : Nat} {w w' : World} (h : ShutL B w w') {g t : Nat} {cs : Array Value} (hb : Blk w g t cs) : Blk w' g t cs := h.cells g _ hb rfl
theorem leaves_list {fn : Func} {tmps : Array Value} {R : Ending → World → Prop} {n B : Nat} : ∀ (L : List Nat) (w : World), L.Nodup → B ≤ w.heap.size → (∀ D ∈ L, B ≤ D ∧ w.heap[D]? = some (.deferred (some []))) →
    (∀ w', ShutL B w w' → LeavesIn Fence.wide n Tryd.prog fn tmps R [] .returning w') → LeavesInM Fence.wide n Tryd.prog fn tmps R (L.map mkD) .returning w := by
  intro L
  induction L with
  | nil => intro w _ hB _ hR; exact hR w ⟨Below.refl _ _, fun _ _ h _ => h⟩
  | cons D L ih =>
    intro w hn hB hL hR
    obtain ⟨hn1, hn2⟩ := List.nodup_cons.1 hn
    obtain ⟨hD1, hD⟩ := hL D (List.mem_cons_self ..)
    refine ⟨by simp, .inl ⟨D, _, rfl, run_takeDeferred hD, ?_⟩⟩
    have hlt := (Array.getElem?_eq_some_iff.1 hD).1
    refine ih _ hn2 ?_ (fun E hE => ⟨(hL E (List.mem_cons_of_mem _ hE)).1, ?_⟩) fun w' hw' => hR w' ⟨?_, fun g o hg ho => ?_⟩
    · rw [World.putObj_size]; exact hB
    · rw [World.putObj_heap_other (fun e => hn1 (by rw [← e]; exact hE))]
      exact (hL E (List.mem_cons_of_mem _ hE)).2
    · exact ((Below.refl B w).grown (grownBy_putObj' w D _) hB (fun k e => by cases e; exact hD1)).trans hw'.bel
    · refine hw'.cells g o ?_ ho
      rw [World.putObj_heap_other (fun e => by subst e; rw [hD] at hg; cases hg; cases ho)]
      exact hg
theorem leaves_marks {fn : Func} {tmps : Array Value} {R : Ending → World → Prop} {n B : Nat} {ds : List Deferred} {w : World} (hm : Marks B w ds) (hB : B ≤ w.heap.size)
    (hR : ∀ w', ShutL B w w' → LeavesIn Fence.wide n Tryd.prog fn tmps R [] .returning w') : LeavesInM Fence.wide n Tryd.prog fn tmps R ds .returning w := by
  obtain ⟨L, rfl, h2, h3⟩ := hm
  exact leaves_list L w h2 hB h3 hR

/-! ### the law of a loop over an iterator, for a plain walk -/
theorem wp_rangeFunc {α : Type} {g : Operand} {ps : Array Tmp} {assign body : Code} {Q : Exit → Act → World → Prop} {a : Act} {w : World}
    {gf : Nat} {lb : Array Value} (hg : a.eval g = .func (.func gf) #[] lb) (eg : ∀ args w, (callFunc gf args).run Tryd.prog w = .ok (.enter gf args) w)
    {encs : α → Array Value} {Kp : World → World → Prop} {S Sp : List α → Prop} {N : Nat} (hseq : SeqStopsK Fence.wide 9 Tryd.prog gf lb encs Kp S Sp N w)
    (hKt : ∀ {A B C : World}, Kp A B → Kp B C → Kp A C) (hKb : ∀ (W : World) (l : Nat) (o o' : Obj), w.heap.size ≤ l → W.heap[l]? = some o → o.isCells = false → o.isWalk = false → Kp W (W.putObj l o')) (hps : ∀ x, (encs x).size = ps.size)
    (I : List α → World → Prop) (Ix : Code → List α → World → Prop) (hI : OwnFrom w.heap.size I) (hIx : ∀ c, OwnFrom w.heap.size (Ix c)) (h0 : I [] w) (Ax : α → Act → World → Prop) (hAx : ∀ x a', OwnFrom w.heap.size (fun (_ : Unit) W => Ax x a' W))
    (hassign : ∀ (l : Nat) (pre : List α) (x : α) (W : World) (K : Act → World → Prop), I pre W → (∀ a' W', KeepsFrom w.heap.size W W' → Kp W W' → I pre W' → Ax x a' W' → K a' W') →
      assign.wpIn (Fence.wide.inRound l) 8 Tryd.prog (Exit.then K (fun _ _ _ => False)) { tmps := (ps.zip (encs x)).foldl (fun t (p, v) => t.setIfInBounds p v) a.tmps, defers := [] } W)
    (hbody : ∀ (l : Nat) (pre : List α) (x : α) (a' : Act) (W : World), w.heap.size ≤ l → I pre W → Ax x a' W → pre.length < N → body.wpIn (Fence.wide.inRound l) 8 Tryd.prog (ownPostG w.heap.size Kp I Ix (pre ++ [x]) W) a' W)
    (hdone : ∀ (D : Nat) (xs : List α) (W : World), w.heap.size ≤ D → S xs → I xs W → W.heap[D]? = some (.deferred (some [])) → Q .normal { a with defers := { target := .collected D, args := #[] } :: a.defers } W)
    (hstop : ∀ (D : Nat) (c : Code) (pre : List α) (W : World), w.heap.size ≤ D → Sp pre → Ix c pre W → W.heap[D]? = some (.deferred (some [])) → c.wp Tryd.prog Q { a with defers := { target := .collected D, args := #[] } :: a.defers } W) :
    (Code.rangeFunc g ps assign body).wp Tryd.prog Q a w :=
  (wpIn_wide (n := 10)).1 (wpIn_rangeFunc_ownH rfl (by omega) hg trivial eg hseq hKt hKb (Below.refl _ _) hps I Ix hI hIx h0 Ax hAx hassign (fun l pre x a' W hl _ hi ha hn => hbody l pre x a' W hl hi ha hn) hdone
    fun D c pre W h1 h2 h3 h4 => wpIn_wide.2 (hstop D c pre W h1 h2 h3 h4))
theorem calls_marks {f : FuncId} {fn : Func} {c : Code} {args : Array Value} {w : World} {R : Ending → World → Prop} (hf : Tryd.prog.funcs[f]? = some fn) (hb : fn.body = some c)
    (h : c.wp Tryd.prog (bodyPostM Fence.wide 10 Tryd.prog fn R) { tmps := args ++ Array.replicate (fn.ntmps - args.size) undef, defers := [] } w) : Calls Tryd.prog f args w R :=
  (callsIn_wide (n := 10)).1 (callsIn_of_wp_marks hf hb trivial (wpIn_wide.2 h) rfl)
theorem ownFrom_blk {β : Type} {B g t : Nat} (f : β → Array Value) (hg : g < B) : OwnFrom B (fun (s : β) W => Blk W g t (f s)) := by
  intro s W W' row hs hgr hr
  refine (hgr.block g hs.lt (fun e => ?_)).trans hs
  have := (hr g e.symm).1
  omega

/-! ### tables of rests in memory -/
def restA (N : Nat) (f : Nat → Nat × Nat) : Array Value := ((List.range N).flatMap fun k => [Value.int .i64 ((f k).1 : Int), .int .i64 ((f k).2 : Int)]).toArray
theorem restL (f : Nat → Nat × Nat) : ∀ N, ((List.range N).flatMap fun k => [Value.int .i64 ((f k).1 : Int), .int .i64 ((f k).2 : Int)]).length = N * 2 := by
  intro N
  induction N with
  | zero => rfl
  | succ N ih => rw [List.range_succ, List.flatMap_append, List.length_append, ih]; simp; omega
theorem restA_size (N : Nat) (f : Nat → Nat × Nat) : (restA N f).size = N * 2 := by unfold restA; rw [List.size_toArray, restL]
theorem restA_get {f : Nat → Nat × Nat} : ∀ {N k : Nat}, k < N → (restA N f)[k * 2]? = some (.int .i64 ((f k).1 : Int)) ∧ (restA N f)[k * 2 + 1]? = some (.int .i64 ((f k).2 : Int)) := by
  intro N
  unfold restA
  simp only [List.getElem?_toArray]
  induction N with
  | zero => intro k hk; omega
  | succ N ih =>
    intro k hk
    have hl := restL f N
    rw [List.range_succ, List.flatMap_append]
    by_cases e : k = N
    · subst e
      rw [List.getElem?_append_right (by omega), List.getElem?_append_right (by omega), hl]
      simp [show k * 2 + 1 - k * 2 = 1 by omega]
    · rw [List.getElem?_append_left (by omega), List.getElem?_append_left (by omega)]
      exact ih (by omega)
theorem restA_congr {N : Nat} {f g : Nat → Nat × Nat} (h : ∀ k, k < N → f k = g k) : restA N f = restA N g := by
  unfold restA
  congr 1
  rw [List.flatMap_def, List.flatMap_def]
  congr 1
  exact List.map_congr_left fun j hj => by rw [h j (List.mem_range.1 hj)]
theorem restA_ext {N : Nat} {f : Nat → Nat × Nat} {A : Array Value} (hs : A.size = N * 2) (h : ∀ k, k < N → A[k * 2]? = some (.int .i64 ((f k).1 : Int)) ∧ A[k * 2 + 1]? = some (.int .i64 ((f k).2 : Int))) : A = restA N f := by
  apply Array.ext_getElem?
  intro i
  by_cases hi : i < N * 2
  · obtain ⟨k, hk⟩ : ∃ k, i = k * 2 ∨ i = k * 2 + 1 := ⟨i / 2, by omega⟩
    have hk2 : k < N := by omega
    rcases hk with rfl | rfl
    · rw [(h k hk2).1, (restA_get hk2).1]
    · rw [(h k hk2).2, (restA_get hk2).2]
  · rw [Array.getElem?_eq_none (by omega), Array.getElem?_eq_none (by rw [restA_size]; omega)]
theorem restA_set {N k : Nat} (hk : k < N) (f : Nat → Nat × Nat) (x y : Nat) :
    ((restA N f).setIfInBounds (k * 2) (.int .i64 (x : Int))).setIfInBounds (k * 2 + 1) (.int .i64 (y : Int)) = restA N (fun j => if j = k then (x, y) else f j) := by
  refine restA_ext (by simp [restA_size]) fun j hj => ?_
  have hs := restA_size N f
  simp only [Array.getElem?_setIfInBounds, Array.size_setIfInBounds, hs]
  by_cases e : j = k
  · subst e
    simp [show j * 2 < N * 2 by omega, show j * 2 + 1 < N * 2 by omega]
  · have e1 : ¬ k * 2 + 1 = j * 2 := by omega
    have e2 : ¬ k * 2 = j * 2 := by omega
    have e3 : ¬ k * 2 = j * 2 + 1 := by omega
    have e4 : ¬ k * 2 + 1 = j * 2 + 1 := by omega
    simp only [if_neg e, if_neg e1, if_neg e2, if_neg e3, if_neg e4]
    exact restA_get hj
/-- rows, as values: those from i on are there -/
def rowsA (N len : Nat) (i : Nat) (g : Nat → Nat) : Array Value := ((List.range N).map fun j => if i ≤ j then Value.slice (some ⟨g j, 0, none⟩) len len else .slice none 0 0).toArray
theorem rowsA_get {N len i j : Nat} {g : Nat → Nat} (hj : j < N) : (rowsA N len i g)[j]? = some (if i ≤ j then Value.slice (some ⟨g j, 0, none⟩) len len else .slice none 0 0) := by simp [rowsA, hj]
theorem rowsA_size (N len i : Nat) (g : Nat → Nat) : (rowsA N len i g).size = N := by simp [rowsA]
theorem rowsA_set {N len i : Nat} {g : Nat → Nat} (x : Nat) (hi : i < N) : (rowsA N len (i + 1) g).setIfInBounds i (.slice (some ⟨x, 0, none⟩) len len) = rowsA N len i (fun j => if j = i then x else g j) := by
  apply Array.ext_getElem?
  intro j
  rw [Array.getElem?_setIfInBounds, rowsA_size]
  by_cases hj : j < N
  · rw [rowsA_get hj, rowsA_get hj]
    by_cases e : i = j
    · subst e; simp [hi]
    · have e' : ¬ j = i := fun h => e h.symm
      simp only [if_neg e, if_neg e']
      by_cases h1 : i + 1 ≤ j
      · rw [if_pos h1, if_pos (by omega)]
      · rw [if_neg h1, if_neg (by omega)]
  · rw [Array.getElem?_eq_none (by rw [rowsA_size]; omega), Array.getElem?_eq_none (by rw [rowsA_size]; omega)]
    by_cases e : i = j
    · subst e; omega
    · simp [e]
end Go.Proofs.YtmhlgnhfbickdaaDoor
