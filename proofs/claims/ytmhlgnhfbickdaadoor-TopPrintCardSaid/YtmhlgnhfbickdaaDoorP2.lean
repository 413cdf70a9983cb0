/-
  The steps from a place of each print: the iterator's contract. Conditions: its boxes lie in memory.
-/
import Derived.RangeFuncNested
import Derived.RangeFuncBound
import Derived.RangeFuncCalls
import Derived.RangeFuncLeaves
import Derived.Shelf.Abstract
import Derived.Shelf.RegionOpen
import Derived.OwnWalkIn
import Derived.TacticsInMore
import Derived.LoopNIn
import Derived.LoopIn
import Derived.Sort.QuietTacIn
import Derived.Sort.BigQuietIn
import Derived.Sort.LoopGhostIn
import Derived.Test.YtmhlgnhfbickdaaDoorP1
namespace Go.Proofs.YtmhlgnhfbickdaaDoor
set_option linter.unusedVariables false
set_option linter.unusedSimpArgs false
open Go.RowKit Go.Shelf
attribute [local go_sem] Oper.semAt_some

/-- an edit, where it leads to, and its cost -/
abbrev St := Int × Int × Int × Int
def encS (x : St) : Value := .agg #[.int .i64 x.1, .int .i64 x.2.1, .int .i64 x.2.2.1, .int .i64 x.2.2.2]
/-- the steps from a place on -/
def stepsL (s t : List UInt8) (p c : Int) (i k : Nat) : List St :=
  (if i < s.length ∧ k < t.length then [if s[i]? = t[k]? then (1, (i : Int) + 1, (k : Int) + 1, 0) else (2, (i : Int) + 1, (k : Int) + 1, c)] else []) ++
  ((if i < s.length then [(3, (i : Int) + 1, (k : Int), p)] else []) ++ (if k < t.length then [(4, (i : Int), (k : Int) + 1, p)] else []))
abbrev StS (s t : List UInt8) (p c : Int) (i k : Nat) := { x : St // x ∈ stepsL s t p c i k }
/-- what a round keeps: the three boxes of the steps -/
def Kp3 (bi bp bk : Nat) (W W' : World) : Prop := W'.heap[bi]? = W.heap[bi]? ∧ W'.heap[bp]? = W.heap[bp]? ∧ W'.heap[bk]? = W.heap[bk]?
theorem Kp3.trans {bi bp bk : Nat} {A B C : World} (h : Kp3 bi bp bk A B) (k : Kp3 bi bp bk B C) : Kp3 bi bp bk A C := ⟨k.1.trans h.1, k.2.1.trans h.2.1, k.2.2.trans h.2.2⟩
theorem Kp3.put {bi bp bk : Nat} {w : World} (h1 : bi < w.heap.size) (h2 : bp < w.heap.size) (h3 : bk < w.heap.size) (W : World) (l : Nat) (o o' : Obj) (hl : w.heap.size ≤ l) (_ : W.heap[l]? = some o) (_ : o.isCells = false) (_ : o.isWalk = false) : Kp3 bi bp bk W (W.putObj l o') :=
  ⟨World.putObj_heap_other (by omega), World.putObj_heap_other (by omega), World.putObj_heap_other (by omega)⟩
/-- (pair).steps -/
theorem steps_any (s t : ByteArray) (p c i k : Int) (w : World) :
    Calls Tryd.prog 63 #[.agg #[.string s, .string t, .int .i64 p, .int .i64 c], .int .i64 i, .int .i64 k] w fun e w' =>
      e = .returned (.func (.func 87) #[] #[.pointer (some ⟨w.heap.size + 1, 0, none⟩), .pointer (some ⟨w.heap.size, 0, none⟩), .pointer (some ⟨w.heap.size + 2, 0, none⟩)]) ∧
      w' = ((w.alloc (.cells #[.string s, .string t, .int .i64 p, .int .i64 c] 72)).alloc (.cells #[.int .i64 i] 3)).alloc (.cells #[.int .i64 k] 3) := by
  go_enter Tryd.func63, Tryd.ntmps63
  go_wp2
  go_ret
  exact ⟨rfl, rfl⟩
theorem abides {β : Type} {J : β → World → Prop} {B : Nat} (h : AbidesFrom B J) {s : β} {W : World} (hj : J s W) (o : Obj) (q : Nat) : J s ((W.alloc o).drewN q) :=
  h s W _ none hj ⟨rfl, rfl, rfl, by simp [World.drewN], fun k hk _ => Below.heap_alloc W o k hk⟩ (fun r e => by cases e)
theorem kp_alloc {bi bp bk : Nat} {W W' : World} {o : Obj} {q : Nat} (h : Kp3 bi bp bk ((W.alloc o).drewN q) W') (h1 : bi < W.heap.size) (h2 : bp < W.heap.size) (h3 : bk < W.heap.size) : Kp3 bi bp bk W W' :=
  ⟨h.1.trans (Below.heap_alloc W o bi h1), h.2.1.trans (Below.heap_alloc W o bp h2), h.2.2.trans (Below.heap_alloc W o bk h3)⟩
theorem abides_bel {β : Type} {J : β → World → Prop} {B : Nat} (h : AbidesFrom B J) {s : β} {W W' : World} (hj : J s W) (hb : Below W.heap.size W W') : J s W' :=
  h s W _ none hj (grown_of hb) (fun r e => by cases e)
theorem kp_bel {bi bp bk : Nat} {W W1 W' : World} (h : Kp3 bi bp bk W1 W') (hb : Below W.heap.size W W1) (h1 : bi < W.heap.size) (h2 : bp < W.heap.size) (h3 : bk < W.heap.size) : Kp3 bi bp bk W W' :=
  ⟨h.1.trans (hb.block bi h1), h.2.1.trans (hb.block bp h2), h.2.2.trans (hb.block bk h3)⟩
structure SB (W : World) (s t : ByteArray) (p c : Int) (i k bi bp bk : Nat) : Prop where
  i_ : Blk W bi 3 #[.int .i64 (i : Int)]
  p_ : Blk W bp 72 #[.string s, .string t, .int .i64 p, .int .i64 c]
  k_ : Blk W bk 3 #[.int .i64 (k : Int)]
theorem SB.kp {W W' : World} {s t : ByteArray} {p c : Int} {i k bi bp bk : Nat} (h : SB W s t p c i k bi bp bk) (hk : Kp3 bi bp bk W W') : SB W' s t p c i k bi bp bk :=
  ⟨hk.1.trans h.i_, hk.2.1.trans h.p_, hk.2.2.trans h.k_⟩
theorem SB.cells {W : World} {s t : ByteArray} {p c : Int} {i k bi bp bk : Nat} (h : SB W s t p c i k bi bp bk) :
    W.cell? ⟨bi, 0, none⟩ = some (.int .i64 (i : Int)) ∧ W.cell? ⟨bk, 0, none⟩ = some (.int .i64 (k : Int)) ∧ W.cell? ⟨bp, 0, none⟩ = some (.string s) ∧ W.cell? ⟨bp, 1, none⟩ = some (.string t) ∧ W.cell? ⟨bp, 2, none⟩ = some (.int .i64 p) ∧ W.cell? ⟨bp, 3, none⟩ = some (.int .i64 c) :=
  ⟨h.i_.cell 0, h.k_.cell 0, h.p_.cell 0, h.p_.cell 1, h.p_.cell 2, h.p_.cell 3⟩

set_option maxRecDepth 100000 in
set_option maxHeartbeats 4000000 in
theorem steps_end (n : Nat) (hn : 1 ≤ n) (l : Nat) (s t : ByteArray) (p c : Int) (i k bi bp bk : Nat) (J Jx : List (StS s.data.toList t.data.toList p c i k) → World → Prop) (W : World)
    (hs : s.size ≤ 1000000) (ht : t.size ≤ 1000000) (hi : i = s.size) (hk : k = t.size) (hB : SB W s t p c i k bi bp bk) (h0 : J [] W) :
    CallsIn Fence.wide n Tryd.prog 87 #[.func (.yield l) #[] #[], .pointer (some ⟨bi, 0, none⟩), .pointer (some ⟨bp, 0, none⟩), .pointer (some ⟨bk, 0, none⟩)] W fun e W' => (∃ v, e = .returned v) ∧ J [] W' := by
  subst hi hk
  obtain ⟨c0, c1, c2, c3, c4, c5⟩ := hB.cells
  have H0 := hid h0
  clear h0 hB
  refine callsIn_of_wp Tryd.func87 rfl trivial ?_ rfl
  simp only [Tryd.ntmps87, List.size_toArray, List.length_cons, List.length_nil, Nat.reduceAdd, Nat.reduceSub, Array.replicate_succ, Array.replicate_zero, List.push_toArray, List.append_toArray, List.nil_append, List.cons_append]
  gi_wp2
  refine ⟨fun _ h => (by cases h), ?_⟩
  gi_wp2
  go_end0
  exact ⟨⟨_, rfl⟩, H0.out⟩

/-- what the iterator has done: all have come, or a round has said no more -/
def Gone (s t : List UInt8) (p c : Int) (i k : Nat) (J Jx : List (StS s t p c i k) → World → Prop) (W' : World) : Prop :=
  (∃ xs : List (StS s t p c i k), xs.map Subtype.val = stepsL s t p c i k ∧ J xs W') ∨ (∃ pre : List (StS s t p c i k), pre.map Subtype.val <+: stepsL s t p c i k ∧ Jx pre W')
def YieldH (n l : Nat) (s t : List UInt8) (p c : Int) (i k bi bp bk : Nat) (J Jx : List (StS s t p c i k) → World → Prop) : Prop :=
  ∀ pre x W1, J pre W1 → pre.length < 3 → YieldAt Fence.wide (n - 1) Tryd.prog l #[encS x.val] W1 fun e W' =>
    (e = .returned (.bool true) ∧ J (pre ++ [x]) W' ∧ Kp3 bi bp bk W1 W') ∨ (e = .returned (.bool false) ∧ Jx (pre ++ [x]) W')

set_option maxRecDepth 100000 in
set_option maxHeartbeats 4000000 in
/-- only the second print is left -/
theorem steps_put (n : Nat) (hn : 1 ≤ n) (l : Nat) (s t : ByteArray) (p c : Int) (i k bi bp bk : Nat) (J Jx : List (StS s.data.toList t.data.toList p c i k) → World → Prop) (W : World)
    (hs : s.size ≤ 1000000) (ht : t.size ≤ 1000000) (hi : i = s.size) (hk : k < t.size) (hB : SB W s t p c i k bi bp bk) (hY : YieldH n l s.data.toList t.data.toList p c i k bi bp bk J Jx) (h0 : J [] W) :
    CallsIn Fence.wide n Tryd.prog 87 #[.func (.yield l) #[] #[], .pointer (some ⟨bi, 0, none⟩), .pointer (some ⟨bp, 0, none⟩), .pointer (some ⟨bk, 0, none⟩)] W fun e W' => (∃ v, e = .returned v) ∧ Gone s.data.toList t.data.toList p c i k J Jx W' := by
  subst hi
  have hL : stepsL s.data.toList t.data.toList p c s.size k = [(4, (s.size : Int), (k : Int) + 1, p)] := by
    unfold stepsL
    rw [if_neg (by simp), if_neg (by simp), if_pos (by simpa using hk)]; rfl
  have hx : ((4, (s.size : Int), (k : Int) + 1, p) : St) ∈ stepsL s.data.toList t.data.toList p c s.size k := by rw [hL]; simp
  obtain ⟨fn, tmps, assign, body, hy, hR⟩ := hY [] ⟨_, hx⟩ W h0 (by simp)
  have HR := hid hR
  have HL := hid hL
  obtain ⟨c0, c1, c2, c3, c4, c5⟩ := hB.cells
  unfold encS at hy
  dsimp only at hy
  clear h0 hB hY hL hR
  refine callsIn_of_wp Tryd.func87 rfl trivial ?_ rfl
  simp only [Tryd.ntmps87, List.size_toArray, List.length_cons, List.length_nil, Nat.reduceAdd, Nat.reduceSub, Array.replicate_succ, Array.replicate_zero, List.push_toArray, List.append_toArray, List.nil_append, List.cons_append]
  gi_wp2
  refine ⟨fun _ h => (by cases h), ?_⟩
  gi_wp2
  refine HR.out.mono ?_
  rintro e W' (⟨rfl, hJ', hk'⟩ | ⟨rfl, hJx'⟩)
  · have HJ := hid hJ'
    clear hJ' hk'
    gi_wp2
    go_end0
    exact ⟨⟨_, rfl⟩, .inl ⟨[⟨_, hx⟩], HL.out.symm, HJ.out⟩⟩
  · have HJ := hid hJx'
    clear hJx'
    gi_wp2
    go_end0
    exact ⟨⟨_, rfl⟩, .inr ⟨[⟨_, hx⟩], ⟨[], HL.out.symm⟩, HJ.out⟩⟩

set_option maxRecDepth 100000 in
set_option maxHeartbeats 4000000 in
/-- only the first print is left -/
theorem steps_leave (n : Nat) (hn : 1 ≤ n) (l : Nat) (s t : ByteArray) (p c : Int) (i k bi bp bk : Nat) (J Jx : List (StS s.data.toList t.data.toList p c i k) → World → Prop) (W : World)
    (hs : s.size ≤ 1000000) (ht : t.size ≤ 1000000) (hi : i < s.size) (hk : k = t.size) (hB : SB W s t p c i k bi bp bk) (hY : YieldH n l s.data.toList t.data.toList p c i k bi bp bk J Jx) (h0 : J [] W) :
    CallsIn Fence.wide n Tryd.prog 87 #[.func (.yield l) #[] #[], .pointer (some ⟨bi, 0, none⟩), .pointer (some ⟨bp, 0, none⟩), .pointer (some ⟨bk, 0, none⟩)] W fun e W' => (∃ v, e = .returned v) ∧ Gone s.data.toList t.data.toList p c i k J Jx W' := by
  subst hk
  have hL : stepsL s.data.toList t.data.toList p c i t.size = [(3, (i : Int) + 1, (t.size : Int), p)] := by
    unfold stepsL
    rw [if_neg (by simp), if_pos (by simpa using hi), if_neg (by simp)]; rfl
  have hx : ((3, (i : Int) + 1, (t.size : Int), p) : St) ∈ stepsL s.data.toList t.data.toList p c i t.size := by rw [hL]; simp
  obtain ⟨fn, tmps, assign, body, hy, hR⟩ := hY [] ⟨_, hx⟩ W h0 (by simp)
  have HR := hid hR
  have HL := hid hL
  have HB := hid hB
  obtain ⟨c0, c1, c2, c3, c4, c5⟩ := hB.cells
  unfold encS at hy
  dsimp only at hy
  clear h0 hB hY hL hR
  refine callsIn_of_wp Tryd.func87 rfl trivial ?_ rfl
  simp only [Tryd.ntmps87, List.size_toArray, List.length_cons, List.length_nil, Nat.reduceAdd, Nat.reduceSub, Array.replicate_succ, Array.replicate_zero, List.push_toArray, List.append_toArray, List.nil_append, List.cons_append]
  gi_wp2
  refine HR.out.mono ?_
  rintro e W' (⟨rfl, hJ', hk'⟩ | ⟨rfl, hJx'⟩)
  · have HJ := hid hJ'
    obtain ⟨d0, d1, d2, d3, d4, d5⟩ := (HB.out.kp hk').cells
    clear hJ' hk'
    gi_wp2
    go_end0
    exact ⟨⟨_, rfl⟩, .inl ⟨[⟨_, hx⟩], HL.out.symm, HJ.out⟩⟩
  · have HJ := hid hJx'
    clear hJx'
    gi_wp2
    refine bodyPost_ret (results_none rfl _ _ _) rfl ?_
    exact ⟨⟨_, rfl⟩, .inr ⟨[⟨_, hx⟩], ⟨[], HL.out.symm⟩, HJ.out⟩⟩

set_option maxRecDepth 100000 in
set_option maxHeartbeats 4000000 in
/-- both are left, their next peaks the same -/
theorem steps_same (n : Nat) (hn : 1 ≤ n) (l : Nat) (s t : ByteArray) (p c : Int) (i k bi bp bk : Nat) (J Jx : List (StS s.data.toList t.data.toList p c i k) → World → Prop) (W : World)
    (hs : s.size ≤ 1000000) (ht : t.size ≤ 1000000) (hi : i < s.size) (hk : k < t.size) (heq : s[i] = t[k]) (hB : SB W s t p c i k bi bp bk) (hJ : AbidesFrom W.heap.size J) (hY : YieldH n l s.data.toList t.data.toList p c i k bi bp bk J Jx) (h0 : J [] W) :
    CallsIn Fence.wide n Tryd.prog 87 #[.func (.yield l) #[] #[], .pointer (some ⟨bi, 0, none⟩), .pointer (some ⟨bp, 0, none⟩), .pointer (some ⟨bk, 0, none⟩)] W fun e W' => (∃ v, e = .returned v) ∧ Gone s.data.toList t.data.toList p c i k J Jx W' := by
  have HB := hid hB
  have HY := hid hY
  have HJ0 := hid (fun W' hb => abides_bel (W' := W') hJ h0 hb)
  have l1 := hB.i_.lt
  have l2 := hB.p_.lt
  have l3 := hB.k_.lt
  obtain ⟨c0, c1, c2, c3, c4, c5⟩ := hB.cells
  clear h0 hB hY hJ
  have hq : s.data.toList[i]? = t.data.toList[k]? := by
    rw [List.getElem?_eq_getElem (by simpa using hi), List.getElem?_eq_getElem (by simpa using hk)]
    exact congrArg some heq
  have hL : stepsL s.data.toList t.data.toList p c i k = [(1, (i : Int) + 1, (k : Int) + 1, 0), (3, (i : Int) + 1, (k : Int), p), (4, (i : Int), (k : Int) + 1, p)] := by
    unfold stepsL
    rw [if_pos ⟨by simpa using hi, by simpa using hk⟩, if_pos hq, if_pos (by simpa using hi), if_pos (by simpa using hk)]; rfl
  have HL := hid hL
  have hne : ((s[i].toNat : Int) != (t[k].toNat : Int)) = false := by rw [heq]; simp
  clear hL hq heq
  have hx1 : ((1, (i : Int) + 1, (k : Int) + 1, 0) : St) ∈ stepsL s.data.toList t.data.toList p c i k := by rw [HL.out]; simp
  have hx3 : ((3, (i : Int) + 1, (k : Int), p) : St) ∈ stepsL s.data.toList t.data.toList p c i k := by rw [HL.out]; simp
  have hx4 : ((4, (i : Int), (k : Int) + 1, p) : St) ∈ stepsL s.data.toList t.data.toList p c i k := by rw [HL.out]; simp
  refine callsIn_of_wp Tryd.func87 rfl trivial ?_ rfl
  simp only [Tryd.ntmps87, List.size_toArray, List.length_cons, List.length_nil, Nat.reduceAdd, Nat.reduceSub, Array.replicate_succ, Array.replicate_zero, List.push_toArray, List.append_toArray, List.nil_append, List.cons_append]
  gi_wp2
  gi_quiet (fail)
  have hbn := bdn (box_bel W (.cells #[.int .i64 1, .int .i64 ((i : Int) + 1), .int .i64 ((k : Int) + 1), .int .i64 0] 79)) nq
  obtain ⟨fn, tmps, assign, body, hy, hR⟩ := HY.out [] ⟨_, hx1⟩ _ (HJ0.out _ hbn) (by simp)
  have HBN := hid hbn
  clear hbn
  have HR := hid hR
  unfold encS at hy
  dsimp only at hy
  clear hR
  gi_wp2
  refine HR.out.mono ?_
  clear HR
  rintro e W1 (⟨rfl, hJ1, hk1⟩ | ⟨rfl, hJx1⟩)
  case inr =>
    have HJ := hid hJx1
    clear hJx1
    gi_wp2
    refine bodyPost_ret (results_none rfl _ _ _) rfl ?_
    exact ⟨⟨_, rfl⟩, .inr ⟨[⟨_, hx1⟩], ⟨[(3, (i : Int) + 1, (k : Int), p), (4, (i : Int), (k : Int) + 1, p)], HL.out.symm⟩, HJ.out⟩⟩
  case inl =>
    have hB1 := HB.out.kp (kp_bel hk1 HBN.out l1 l2 l3)
    have HB1 := hid hB1
    obtain ⟨d0, d1, d2, d3, d4, d5⟩ := hB1.cells
    obtain ⟨fn, tmps, assign, body, hy, hR⟩ := HY.out _ ⟨_, hx3⟩ W1 hJ1 (by simp)
    have HR := hid hR
    unfold encS at hy
    dsimp only at hy
    clear hB1 hJ1 hk1 hR
    gi_wp2
    refine HR.out.mono ?_
    clear HR
    rintro e W2 (⟨rfl, hJ2, hk2⟩ | ⟨rfl, hJx2⟩)
    case inr =>
      have HJ := hid hJx2
      clear hJx2
      gi_wp2
      refine bodyPost_ret (results_none rfl _ _ _) rfl ?_
      exact ⟨⟨_, rfl⟩, .inr ⟨[⟨_, hx1⟩, ⟨_, hx3⟩], ⟨[(4, (i : Int), (k : Int) + 1, p)], HL.out.symm⟩, HJ.out⟩⟩
    case inl =>
      have hB2 := HB1.out.kp hk2
      obtain ⟨e0, e1, e2, e3, e4, e5⟩ := hB2.cells
      obtain ⟨fn, tmps, assign, body, hy, hR⟩ := HY.out _ ⟨_, hx4⟩ W2 hJ2 (by simp)
      have HR := hid hR
      unfold encS at hy
      dsimp only at hy
      clear hB2 hJ2 hk2 hR
      gi_wp2
      refine HR.out.mono ?_
      clear HR
      rintro e W3 (⟨rfl, hJ3, hk3⟩ | ⟨rfl, hJx3⟩)
      · have HJ := hid hJ3
        clear hJ3 hk3
        gi_wp2
        go_end0
        exact ⟨⟨_, rfl⟩, .inl ⟨[⟨_, hx1⟩, ⟨_, hx3⟩, ⟨_, hx4⟩], HL.out.symm, HJ.out⟩⟩
      · have HJ := hid hJx3
        clear hJx3
        gi_wp2
        go_end0
        exact ⟨⟨_, rfl⟩, .inr ⟨[⟨_, hx1⟩, ⟨_, hx3⟩, ⟨_, hx4⟩], ⟨[], HL.out.symm⟩, HJ.out⟩⟩

set_option maxRecDepth 100000 in
set_option maxHeartbeats 4000000 in
/-- both are left, their next peaks not the same -/
theorem steps_other (n : Nat) (hn : 1 ≤ n) (l : Nat) (s t : ByteArray) (p c : Int) (i k bi bp bk : Nat) (J Jx : List (StS s.data.toList t.data.toList p c i k) → World → Prop) (W : World)
    (hs : s.size ≤ 1000000) (ht : t.size ≤ 1000000) (hi : i < s.size) (hk : k < t.size) (heq : ¬ s[i] = t[k]) (hB : SB W s t p c i k bi bp bk) (hJ : AbidesFrom W.heap.size J) (hY : YieldH n l s.data.toList t.data.toList p c i k bi bp bk J Jx) (h0 : J [] W) :
    CallsIn Fence.wide n Tryd.prog 87 #[.func (.yield l) #[] #[], .pointer (some ⟨bi, 0, none⟩), .pointer (some ⟨bp, 0, none⟩), .pointer (some ⟨bk, 0, none⟩)] W fun e W' => (∃ v, e = .returned v) ∧ Gone s.data.toList t.data.toList p c i k J Jx W' := by
  have HB := hid hB
  have HY := hid hY
  have HJ0 := hid (fun W' hb => abides_bel (W' := W') hJ h0 hb)
  have l1 := hB.i_.lt
  have l2 := hB.p_.lt
  have l3 := hB.k_.lt
  obtain ⟨c0, c1, c2, c3, c4, c5⟩ := hB.cells
  clear h0 hB hY hJ
  have hq : ¬ s.data.toList[i]? = t.data.toList[k]? := by
    rw [List.getElem?_eq_getElem (by simpa using hi), List.getElem?_eq_getElem (by simpa using hk)]
    exact fun h => heq (by injection h)
  have hL : stepsL s.data.toList t.data.toList p c i k = [(2, (i : Int) + 1, (k : Int) + 1, c), (3, (i : Int) + 1, (k : Int), p), (4, (i : Int), (k : Int) + 1, p)] := by
    unfold stepsL
    rw [if_pos ⟨by simpa using hi, by simpa using hk⟩, if_neg hq, if_pos (by simpa using hi), if_pos (by simpa using hk)]; rfl
  have HL := hid hL
  have hne : ((s[i].toNat : Int) != (t[k].toNat : Int)) = true := by
    simp only [bne_iff_ne, ne_eq]
    exact fun h => heq (UInt8.toNat_inj.1 (by omega))
  clear hL hq heq
  have hx1 : ((2, (i : Int) + 1, (k : Int) + 1, c) : St) ∈ stepsL s.data.toList t.data.toList p c i k := by rw [HL.out]; simp
  have hx3 : ((3, (i : Int) + 1, (k : Int), p) : St) ∈ stepsL s.data.toList t.data.toList p c i k := by rw [HL.out]; simp
  have hx4 : ((4, (i : Int), (k : Int) + 1, p) : St) ∈ stepsL s.data.toList t.data.toList p c i k := by rw [HL.out]; simp
  refine callsIn_of_wp Tryd.func87 rfl trivial ?_ rfl
  simp only [Tryd.ntmps87, List.size_toArray, List.length_cons, List.length_nil, Nat.reduceAdd, Nat.reduceSub, Array.replicate_succ, Array.replicate_zero, List.push_toArray, List.append_toArray, List.nil_append, List.cons_append]
  gi_wp2
  gi_quiet (fail)
  have hbn := ((((bdn (box_bel W (.cells #[.int .i64 1, .int .i64 ((i : Int) + 1), .int .i64 ((k : Int) + 1), .int .i64 0] 79)) nq).setCell (p := ⟨W.heap.size, 0, none⟩) (Nat.le_refl _) (.int .i64 2)).setCell (p := ⟨W.heap.size, 1, none⟩) (Nat.le_refl _) (.int .i64 ((i : Int) + 1))).setCell (p := ⟨W.heap.size, 2, none⟩) (Nat.le_refl _) (.int .i64 ((k : Int) + 1))).setCell (p := ⟨W.heap.size, 3, none⟩) (Nat.le_refl _) (.int .i64 c)
  obtain ⟨fn, tmps, assign, body, hy, hR⟩ := HY.out [] ⟨_, hx1⟩ _ (HJ0.out _ hbn) (by simp)
  have HBN := hid hbn
  clear hbn
  have HR := hid hR
  unfold encS at hy
  dsimp only at hy
  clear hR
  gi_wp2
  refine HR.out.mono ?_
  clear HR
  rintro e W1 (⟨rfl, hJ1, hk1⟩ | ⟨rfl, hJx1⟩)
  case inr =>
    have HJ := hid hJx1
    clear hJx1
    gi_wp2
    refine bodyPost_ret (results_none rfl _ _ _) rfl ?_
    exact ⟨⟨_, rfl⟩, .inr ⟨[⟨_, hx1⟩], ⟨[(3, (i : Int) + 1, (k : Int), p), (4, (i : Int), (k : Int) + 1, p)], HL.out.symm⟩, HJ.out⟩⟩
  case inl =>
    have hB1 := HB.out.kp (kp_bel hk1 HBN.out l1 l2 l3)
    have HB1 := hid hB1
    obtain ⟨d0, d1, d2, d3, d4, d5⟩ := hB1.cells
    obtain ⟨fn, tmps, assign, body, hy, hR⟩ := HY.out _ ⟨_, hx3⟩ W1 hJ1 (by simp)
    have HR := hid hR
    unfold encS at hy
    dsimp only at hy
    clear hB1 hJ1 hk1 hR
    gi_wp2
    refine HR.out.mono ?_
    clear HR
    rintro e W2 (⟨rfl, hJ2, hk2⟩ | ⟨rfl, hJx2⟩)
    case inr =>
      have HJ := hid hJx2
      clear hJx2
      gi_wp2
      refine bodyPost_ret (results_none rfl _ _ _) rfl ?_
      exact ⟨⟨_, rfl⟩, .inr ⟨[⟨_, hx1⟩, ⟨_, hx3⟩], ⟨[(4, (i : Int), (k : Int) + 1, p)], HL.out.symm⟩, HJ.out⟩⟩
    case inl =>
      have hB2 := HB1.out.kp hk2
      obtain ⟨e0, e1, e2, e3, e4, e5⟩ := hB2.cells
      obtain ⟨fn, tmps, assign, body, hy, hR⟩ := HY.out _ ⟨_, hx4⟩ W2 hJ2 (by simp)
      have HR := hid hR
      unfold encS at hy
      dsimp only at hy
      clear hB2 hJ2 hk2 hR
      gi_wp2
      refine HR.out.mono ?_
      clear HR
      rintro e W3 (⟨rfl, hJ3, hk3⟩ | ⟨rfl, hJx3⟩)
      · have HJ := hid hJ3
        clear hJ3 hk3
        gi_wp2
        go_end0
        exact ⟨⟨_, rfl⟩, .inl ⟨[⟨_, hx1⟩, ⟨_, hx3⟩, ⟨_, hx4⟩], HL.out.symm, HJ.out⟩⟩
      · have HJ := hid hJx3
        clear hJx3
        gi_wp2
        go_end0
        exact ⟨⟨_, rfl⟩, .inr ⟨[⟨_, hx1⟩, ⟨_, hx3⟩, ⟨_, hx4⟩], ⟨[], HL.out.symm⟩, HJ.out⟩⟩

/-- the steps' iterator: whatever the loop's body -/
theorem steps_stops (n : Nat) (hn : 1 ≤ n) (s t : ByteArray) (p c : Int) (i k bi bp bk : Nat) (w : World) (hs : s.size ≤ 1000000) (ht : t.size ≤ 1000000) (hi : i ≤ s.size) (hk : k ≤ t.size) (hB : SB w s t p c i k bi bp bk) :
    SeqStopsK Fence.wide n Tryd.prog 87 #[.pointer (some ⟨bi, 0, none⟩), .pointer (some ⟨bp, 0, none⟩), .pointer (some ⟨bk, 0, none⟩)] (fun x : StS s.data.toList t.data.toList p c i k => #[encS x.val]) (Kp3 bi bp bk)
      (fun xs => xs.map Subtype.val = stepsL s.data.toList t.data.toList p c i k) (fun pre => pre.map Subtype.val <+: stepsL s.data.toList t.data.toList p c i k) 3 w := by
  intro l J Jx W hW hJ hJx hY h0
  have hB' : SB W s t p c i k bi bp bk := ⟨hB.i_.below' hW, hB.p_.below' hW, hB.k_.below' hW⟩
  by_cases h1 : i < s.size
  · by_cases h2 : k < t.size
    · by_cases heq : s[i] = t[k]
      · exact steps_same n hn l s t p c i k bi bp bk J Jx W hs ht h1 h2 heq hB' hJ hY h0
      · exact steps_other n hn l s t p c i k bi bp bk J Jx W hs ht h1 h2 heq hB' hJ hY h0
    · exact steps_leave n hn l s t p c i k bi bp bk J Jx W hs ht h1 (by omega) hB' hY h0
  · by_cases h2 : k < t.size
    · exact steps_put n hn l s t p c i k bi bp bk J Jx W hs ht (by omega) h2 hB' hY h0
    · refine (steps_end n hn l s t p c i k bi bp bk J Jx W hs ht (by omega) (by omega) hB' h0).mono ?_
      rintro e W' ⟨hv, hj⟩
      refine ⟨hv, .inl ⟨[], ?_, hj⟩⟩
      show [] = stepsL s.data.toList t.data.toList p c i k
      unfold stepsL
      rw [if_neg (by simp; omega), if_neg (by simp; omega), if_neg (by simp; omega)]; rfl
end Go.Proofs.YtmhlgnhfbickdaaDoor
