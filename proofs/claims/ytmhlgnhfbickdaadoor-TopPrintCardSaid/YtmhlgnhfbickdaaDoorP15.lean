/-
  Edits of the program. Conditions: none but that the prints' lengths are int's.
-/

import Derived.Test.YtmhlgnhfbickdaaDoorP14
import Derived.Test.YtmhlgnhfbickdaaDoorRnd2
namespace Go.Proofs.YtmhlgnhfbickdaaDoor
set_option linter.unusedVariables false
set_option linter.unusedSimpArgs false
open Go.RowKit Go.Shelf
attribute [local go_sem] Oper.semAt_some

theorem own_mono {w : World} {base base' e size n : Nat} {v : Value} {xs : List Value} (h : w.ownsRow base e size v n xs) (hb : base' ≤ base) : w.ownsRow base' e size v n xs := by
  refine ⟨h.1, ?_⟩
  rcases h.2 with h | ⟨g, cap, cur, h1, h2, h3⟩
  · exact .inl h
  · exact .inr ⟨g, cap, cur, h1, Nat.le_trans hb h2, h3⟩
theorem own_lt {w : World} {base e size n b : Nat} {v : Value} {xs : List Value} (h : w.ownsRow base e size v n xs) (hb : v.ownBlock = some b) : base ≤ b ∧ b < w.heap.size := by
  rcases h.2 with ⟨rfl, _⟩ | ⟨g, cap, cur, rfl, h2, h3, _⟩
  · simp [Value.ownBlock] at hb
  · simp [Value.ownBlock] at hb
    subst hb
    exact ⟨h2, (Array.getElem?_eq_some_iff.1 h3).1⟩
theorem own_wide {w : World} {base e n b : Nat} {v x : Value} {xs : List Value} (h : w.ownsRow base e 1 v n xs) (hn : 2 ≤ n) (hb : Blk w b e #[x]) : v.ownBlock ≠ some b := by
  rcases h.2 with ⟨rfl, _⟩ | ⟨g, cap, cur, rfl, h2, h3, h4, h5, h6, _⟩
  · simp [Value.ownBlock]
  · simp [Value.ownBlock]
    rintro rfl
    unfold Blk at hb
    rw [hb] at h3
    injection h3 with h3
    injection h3 with h3
    subst h3
    simp at h6
    omega
/-- a block of cells abides what a loop over an iterator does beside its rounds -/
theorem blk_own {W W' : World} {row : Option Nat} {b t : Nat} {cs : Array Value} (h : Blk W b t cs) (hg : W.grownBy W' row) (hr : ∀ r, row = some r → ∃ o : Obj, W.heap[r]? = some o ∧ o.isCells = false) : Blk W' b t cs := by
  refine (hg.block b h.lt (fun e => ?_)).trans h
  obtain ⟨o, ho, hc⟩ := hr b e.symm
  unfold Blk at h
  rw [h] at ho
  cases ho
  cases hc
theorem own_own {W W' : World} {row : Option Nat} {base e size n : Nat} {v : Value} {xs : List Value} (h : W.ownsRow base e size v n xs) (hg : W.grownBy W' row) (hr : ∀ r, row = some r → ∃ o : Obj, W.heap[r]? = some o ∧ o.isCells = false) : W'.ownsRow base e size v n xs := by
  refine h.kept hg ?_
  rcases h.2 with ⟨rfl, _⟩ | ⟨g, cap, cur, rfl, _, hgb, _⟩
  · exact .inl rfl
  · refine .inr fun e' => ?_
    obtain ⟨o, ho, hc⟩ := hr g (by simpa [Value.ownBlock] using e'.symm)
    rw [hgb] at ho; cases ho; cases hc

/-- what stands while edits are gathered -/
structure EdP (w wr : World) (s t : ByteArray) (p c bp bl bo go : Nat) (g : Nat → Nat) (bi bk i k : Nat) (v : Value) (pre : List Int) : Prop where
  pb : Blk wr bp 72 #[.string s, .string t, .int .i64 (p : Int), .int .i64 (c : Int)]
  lb : Blk wr bl 87 #[.slice (some ⟨go, 0, none⟩) (s.size + 1) (s.size + 1)]
  gb : Blk wr go 86 (rowsA (s.size + 1) (t.size + 1) 0 g)
  br : ∀ i, i ≤ s.size → Blk wr (g i) 85 (restA (t.size + 1) (val s t p c i))
  ob : Blk wr bo 25 #[v]
  ib : Blk wr bi 3 #[.int .i64 (i : Int)]
  kb : Blk wr bk 3 #[.int .i64 (k : Int)]
  own : wr.ownsRow w.heap.size 3 1 v pre.length (pre.map (Value.int .i64))
  ni : v.ownBlock ≠ some bi
  nk : v.ownBlock ≠ some bk
  ik : bi ≠ bk
  nl : pre = [] → v = .slice none 0 0
  lo : w.heap.size ≤ bo ∧ w.heap.size ≤ bi ∧ w.heap.size ≤ bk
  bel : Below w.heap.size w wr
section
variable {w wr wr' w1 : World} {s t : ByteArray} {p c bp bl bo go bi bk i k i' k' : Nat} {g : Nat → Nat} {v v' : Value} {pre : List Int}
theorem EdP.next (h : EdP w wr s t p c bp bl bo go g bi bk i k v pre) (hb : Below wr.heap.size wr wr') : EdP w wr' s t p c bp bl bo go g bi bk i k v pre :=
  ⟨h.pb.below' hb, h.lb.below' hb, h.gb.below' hb, fun i hi => (h.br i hi).below' hb, h.ob.below' hb, h.ib.below' hb, h.kb.below' hb, own_bel h.own hb, h.ni, h.nk, h.ik, h.nl, h.lo, btr h.bel hb h.bel.size⟩
theorem EdP.keep {row : Option Nat} (h : EdP w wr s t p c bp bl bo go g bi bk i k v pre) (hg : wr.grownBy wr' row) (hr : ∀ r, row = some r → w.heap.size ≤ r ∧ ∃ o : Obj, wr.heap[r]? = some o ∧ o.isCells = false) : EdP w wr' s t p c bp bl bo go g bi bk i k v pre := by
  have hr' := fun r e => (hr r e).2
  exact ⟨blk_own h.pb hg hr', blk_own h.lb hg hr', blk_own h.gb hg hr', fun i hi => blk_own (h.br i hi) hg hr', blk_own h.ob hg hr', blk_own h.ib hg hr', blk_own h.kb hg hr', own_own h.own hg hr', h.ni, h.nk, h.ik, h.nl, h.lo, h.bel.grown hg h.bel.size fun r e => (hr r e).1⟩
theorem EdP.setI (h : EdP w wr s t p c bp bl bo go g bi bk i k v pre) (i' : Nat) : EdP w (wr.setCell ⟨bi, 0, none⟩ (.int .i64 (i' : Int))) s t p c bp bl bo go g bi bk i' k v pre :=
  ⟨h.pb.far (p := ⟨bi, 0, none⟩) (h.pb.ne_ h.ib (by decide)) _, h.lb.far (p := ⟨bi, 0, none⟩) (h.lb.ne_ h.ib (by decide)) _, h.gb.far (p := ⟨bi, 0, none⟩) (h.gb.ne_ h.ib (by decide)) _, fun j hj => (h.br j hj).far (p := ⟨bi, 0, none⟩) ((h.br j hj).ne_ h.ib (by decide)) _,
    h.ob.far (p := ⟨bi, 0, none⟩) (h.ob.ne_ h.ib (by decide)) _, by simpa using h.ib.set_ 0 (.int .i64 (i' : Int)), h.kb.far (p := ⟨bi, 0, none⟩) (Ne.symm h.ik) _, h.own.kept (grownBy_setCell' wr bi _) (.inr h.ni), h.ni, h.nk, h.ik, h.nl, h.lo, h.bel.setCell (p := ⟨bi, 0, none⟩) h.lo.2.1 _⟩
theorem EdP.setK (h : EdP w wr s t p c bp bl bo go g bi bk i k v pre) (k' : Nat) : EdP w (wr.setCell ⟨bk, 0, none⟩ (.int .i64 (k' : Int))) s t p c bp bl bo go g bi bk i k' v pre :=
  ⟨h.pb.far (p := ⟨bk, 0, none⟩) (h.pb.ne_ h.kb (by decide)) _, h.lb.far (p := ⟨bk, 0, none⟩) (h.lb.ne_ h.kb (by decide)) _, h.gb.far (p := ⟨bk, 0, none⟩) (h.gb.ne_ h.kb (by decide)) _, fun j hj => (h.br j hj).far (p := ⟨bk, 0, none⟩) ((h.br j hj).ne_ h.kb (by decide)) _,
    h.ob.far (p := ⟨bk, 0, none⟩) (h.ob.ne_ h.kb (by decide)) _, h.ib.far (p := ⟨bk, 0, none⟩) h.ik _, by simpa using h.kb.set_ 0 (.int .i64 (k' : Int)), h.own.kept (grownBy_setCell' wr bk _) (.inr h.nk), h.ni, h.nk, h.ik, h.nl, h.lo, h.bel.setCell (p := ⟨bk, 0, none⟩) h.lo.2.2 _⟩
/-- new boxes for the next round -/
theorem EdP.fresh (h : EdP w wr s t p c bp bl bo go g bi bk i k v pre) (i' k' : Nat) : EdP w ((wr.alloc (.cells #[.int .i64 (i' : Int)] 3)).alloc (.cells #[.int .i64 (k' : Int)] 3)) s t p c bp bl bo go g wr.heap.size (wr.heap.size + 1) i' k' v pre := by
  have hs := h.bel.size
  refine ⟨(h.pb.alloc _).alloc _, (h.lb.alloc _).alloc _, (h.gb.alloc _).alloc _, fun j hj => ((h.br j hj).alloc _).alloc _, (h.ob.alloc _).alloc _, (Blk.new _ _ _).alloc _, by simpa using Blk.new (wr.alloc (.cells #[.int .i64 (i' : Int)] 3)) 3 #[.int .i64 (k' : Int)], (h.own.alloc _).alloc _, fun e => ?_, fun e => ?_, by omega, h.nl, ⟨h.lo.1, hs, by omega⟩, (h.bel.alloc hs _).alloc (by simp; omega) _⟩
  · have := (own_lt h.own e).2; omega
  · have := (own_lt h.own e).2; omega
/-- the base to tell the append law: a first row lies in a new block -/
def apB (pre : List Int) (B B' : Nat) : Nat := if pre = [] then B' else B
theorem EdP.apOwn {o : Obj} (h : EdP w wr s t p c bp bl bo go g bi bk i k v pre) : (wr.alloc o).ownsRow (apB pre w.heap.size (wr.heap.size + 1)) 3 1 v pre.length (pre.map (Value.int .i64)) := by
  unfold apB
  by_cases e : pre = []
  · subst e
    rw [if_pos rfl]
    rw [h.nl rfl]
    exact World.ownsRow_nil _ _ _ _
  · rw [if_neg e]
    exact h.own.alloc o
theorem EdP.apLe (h : EdP w wr s t p c bp bl bo go g bi bk i k v pre) : apB pre w.heap.size (wr.heap.size + 1) ≤ wr.heap.size + 1 := by
  have := h.bel.size
  unfold apB
  split <;> omega
theorem EdP.app {o : Obj} {e : Int} (h : EdP w wr s t p c bp bl bo go g bi bk i k v pre) (hown' : w1.ownsRow (apB pre w.heap.size (wr.heap.size + 1)) 3 1 v' (pre.length + 1) (pre.map (Value.int .i64) ++ [.int .i64 e])) (hgrow : (wr.alloc o).grownBy w1 v.ownBlock) :
    EdP w (w1.setCell ⟨bo, 0, none⟩ v') s t p c bp bl bo go g bi bk i k v' (pre ++ [e]) ∧ Blk w1 bo 25 #[v] ∧ KeepsOthers wr (w1.setCell ⟨bo, 0, none⟩ v') := by
  have hs := h.bel.size
  have own1 : w1.ownsRow w.heap.size 3 1 v' (pre.length + 1) (pre.map (Value.int .i64) ++ [.int .i64 e]) := own_mono hown' (by unfold apB; split <;> omega)
  have hib : Blk w1 bi 3 #[.int .i64 (i : Int)] := (hgrow.block bi (h.ib.alloc o).lt (Ne.symm h.ni)).trans (h.ib.alloc o)
  have hkb : Blk w1 bk 3 #[.int .i64 (k : Int)] := (hgrow.block bk (h.kb.alloc o).lt (Ne.symm h.nk)).trans (h.kb.alloc o)
  have ni : v'.ownBlock ≠ some bi := by
    by_cases e0 : pre = []
    · intro e1
      have := (own_lt hown' e1).1
      unfold apB at this
      rw [if_pos e0] at this
      have := h.ib.lt
      omega
    · exact own_wide own1 (by have := List.length_pos_iff.2 e0; omega) hib
  have nk : v'.ownBlock ≠ some bk := by
    by_cases e0 : pre = []
    · intro e1
      have := (own_lt hown' e1).1
      unfold apB at this
      rw [if_pos e0] at this
      have := h.kb.lt
      omega
    · exact own_wide own1 (by have := List.length_pos_iff.2 e0; omega) hkb
  have far : ∀ {b ty : Nat} {cs : Array Value}, Blk wr b ty cs → ty ≠ 3 → b ≠ bo → Blk (w1.setCell ⟨bo, 0, none⟩ v') b ty cs := fun hb hne hbo => (own_type (h.own.alloc o) hgrow (hb.alloc o) hne).far (p := ⟨bo, 0, none⟩) hbo _
  obtain ⟨a1, a2, a3, a4, a5⟩ := Boxed.appended (W := wr) (w1 := w1) (n₀ := w.heap.size) (B := bo) (t := 25) (e := 3) h.ob (by decide) h.own hs h.lo.1 own1 hgrow
  refine ⟨⟨far h.pb (by decide) (h.pb.ne_ h.ob (by decide)), far h.lb (by decide) (h.lb.ne_ h.ob (by decide)), far h.gb (by decide) (h.gb.ne_ h.ob (by decide)), fun j hj => far (h.br j hj) (by decide) ((h.br j hj).ne_ h.ob (by decide)), a2, ?_, ?_, ?_, ni, nk, h.ik, by simp, h.lo, h.bel.trans a5⟩, a1, a4⟩
  · exact hib.far (p := ⟨bo, 0, none⟩) (h.ib.ne_ h.ob (by decide)) _
  · exact hkb.far (p := ⟨bo, 0, none⟩) (h.kb.ne_ h.ob (by decide)) _
  · rw [List.length_append, List.map_append]
    exact a3
/-- the numbers of a place -/
theorem EdP.at_ {i' k' : Nat} (h : EdP w wr s t p c bp bl bo go g bi bk i k v pre) (hi : i' ≤ s.size) (hk : k' ≤ t.size) :
    wr.cell? ⟨go, i', none⟩ = some (.slice (some ⟨g i', 0, none⟩) (t.size + 1) (t.size + 1)) ∧ wr.cell? ⟨g i', k' * 2, none⟩ = some (.int .i64 ((val s t p c i' k').1 : Int)) :=
  ⟨(h.gb.cell i').trans ((rowsA_get (by omega)).trans (by rw [if_pos (Nat.zero_le _)])), ((h.br i' hi).cell _).trans (restA_get (by omega)).1⟩
end
theorem cell_far {w : World} {b o : Nat} {v u : Value} {a : Addr} (h : w.cell? ⟨b, o, none⟩ = some v) (hne : b ≠ a.block) : (w.setCell a u).cell? ⟨b, o, none⟩ = some v :=
  (World.cell?_setCell_other w a ⟨b, o, none⟩ u (fun e => hne (by first | rw [← e] | rw [e]))).trans h
/-- what a round that ends the loop leaves -/
def EdIx (w w0 : World) (s t : ByteArray) (p c bp bl bo go : Nat) (g : Nat → Nat) (bi bk i k : Nat) (pre : List Int) (cd : Code) (pr : List (StS s.data.toList t.data.toList (p : Int) (c : Int) i k)) (W : World) : Prop :=
  cd = .exit 2 ∧ KeepsFrom 0 w0 W ∧ ∃ (pr0 : List (StS s.data.toList t.data.toList (p : Int) (c : Int) i k)) (x : StS s.data.toList t.data.toList (p : Int) (c : Int) i k) (i' k' : Nat) (v' : Value), (pr = pr0 ++ [x] ∧ (∀ y ∈ pr0, bestS s t p c i k y.val = false) ∧ bestS s t p c i k x.val = true ∧ x.val.2.1 = (i' : Int) ∧ x.val.2.2.1 = (k' : Int)) ∧ (i' ≤ s.size ∧ k' ≤ t.size ∧ i ≤ i' ∧ k ≤ k' ∧ i + k < i' + k') ∧ EdP w W s t p c bp bl bo go g bi bk i' k' v' (pre ++ [x.val.1])
theorem edIx_own {w w0 : World} {s t : ByteArray} {p c bp bl bo go : Nat} {g : Nat → Nat} {bi bk i k : Nat} {pre : List Int} {B : Nat} (h0 : w0.heap.size ≤ B) (h1 : w.heap.size ≤ B) (cd : Code) : OwnFrom B (fun pr W => EdIx w w0 s t p c bp bl bo go g bi bk i k pre cd pr W) := by
  rintro x W W' row ⟨rfl, hK, pr0, y, i', k', v', h2, h3, h4⟩ hg hr
  exact ⟨rfl, ownFrom_keepsFrom h0 x W W' row hK hg hr, pr0, y, i', k', v', h2, h3, h4.keep hg fun r e => ⟨Nat.le_trans h1 (hr r e).1, (hr r e).2⟩⟩
theorem keepsFrom_below {B : Nat} {W W' : World} (h : Below W.heap.size W W') : KeepsFrom B W W' := KeepsFrom.of_grownBy (grown_of h) (fun j e => by cases e)
theorem Marks.keeps {B : Nat} {w w' : World} {ds : List Deferred} (h : Marks B w ds) (hk : KeepsFrom 0 w w') : Marks B w' ds := h.kept fun k o h1 h2 => hk.same k o (Nat.zero_le _) h1 h2

theorem IntsV.shut {B : Nat} {w w' : World} {v : Value} {l : List Int} (h : IntsV w v l) (hw : ShutL B w w') : IntsV w' v l := by
  obtain ⟨A, cap, rfl, hn, b, off, h1, h2, h3⟩ := h
  refine ⟨A, cap, rfl, hn, b, off, fun h0 => Nat.lt_of_lt_of_le (h1 h0) hw.bel.size, h2, fun i hi => ?_⟩
  have h4 := h3 i hi
  have hlt := h1 (by omega)
  obtain ⟨o, ho⟩ : ∃ o, w.heap[b]? = some o := ⟨_, Array.getElem?_eq_getElem hlt⟩
  cases o with
  | cells cs ty fz =>
    have h5 := hw.cells b _ ho rfl
    unfold World.cell? at h4 ⊢
    rw [ho] at h4
    rw [h5]
    exact h4
  | _ => unfold World.cell? at h4; rw [ho] at h4; simp at h4
set_option maxRecDepth 100000 in
set_option maxHeartbeats 8000000 in
theorem edits_any (s t : ByteArray) (p c : Int) (w : World) (hs : s.size ≤ 9223372036854775807) (ht : t.size ≤ 9223372036854775807) :
    Calls Tryd.prog 35 #[.string s, .string t, .agg #[.int .i64 p, .int .i64 c]] w (EditsR w s t p c) := by
  have hb0 := box_bel w (.cells #[.int .i64 p, .int .i64 c] 24)
  obtain ⟨i0, hi0, hz0, hz1, hz2⟩ := info_parts info3
  refine calls_marks Tryd.func35 rfl ?_
  simp only [Tryd.ntmps35, List.size_toArray, List.length_cons, List.length_nil, Nat.reduceAdd, Nat.reduceSub, Array.replicate_succ, Array.replicate_zero, List.push_toArray, List.append_toArray, List.nil_append, List.cons_append]
  go_wp2_with fail
  refine (newPair_any s t p c _ hs ht).mono ?_
  rintro e w1 ⟨x, y, u, v, rfl, h0, hb⟩
  have hb1 := box_trans _ hb
  clear hb hb0
  by_cases hz : codeP s t p c = 0
  · obtain ⟨rfl, rfl, rfl, rfl⟩ := h0 hz
    have h20 := codeP_zero hz
    have HZ := hid hz
    rw [hz]
    clear hz h0
    obtain ⟨s, rfl⟩ : ∃ s', s' = x := ⟨_, rfl⟩
    obtain ⟨t, rfl⟩ : ∃ s', s' = y := ⟨_, rfl⟩
    obtain ⟨h20s, h20t, hpp, hcc⟩ := h20
    obtain ⟨p, rfl⟩ : ∃ p' : Nat, u = (p' : Int) := ⟨u.toNat, by omega⟩
    obtain ⟨c, rfl⟩ : ∃ c' : Nat, v = (c' : Int) := ⟨v.toNat, by omega⟩
    have HB := hid (btr hb1 (box_bel w1 (.cells #[.string s, .string t, .int .i64 (p : Int), .int .i64 (c : Int)] 72)) hb1.size)
    have HP := hid (Blk.new w1 72 #[.string s, .string t, .int .i64 (p : Int), .int .i64 (c : Int)])
    obtain ⟨bp, hbp⟩ : ∃ bp, w1.heap.size = bp := ⟨_, rfl⟩
    rw [hbp] at HP
    clear hb1
    go_wp2_with fail
    refine (rests_any s t p c _ h20s h20t (by omega) (by omega)).mono ?_
    rintro e w2 ⟨go, g, rfl, hgo, hg, hb2⟩
    have hB2 := btr HB.out hb2 HB.out.size
    have hP2 := HP.out.below' hb2
    have HE : Hid (EdP w ((((w2.alloc (.cells #[.slice (some ⟨go, 0, none⟩) (s.size + 1) (s.size + 1)] 87)).alloc (.cells #[.slice none 0 0] 25)).alloc (.cells #[.int .i64 ((0 : Nat) : Int)] 3)).alloc (.cells #[.int .i64 ((0 : Nat) : Int)] 3)) s t p c bp w2.heap.size (w2.heap.size + 1) go g (w2.heap.size + 1 + 1) (w2.heap.size + 1 + 1 + 1) 0 0 (.slice none 0 0) []) := by
      have hs2 := hB2.size
      refine hid ⟨(((hP2.alloc _).alloc _).alloc _).alloc _, (((Blk.new _ _ _).alloc _).alloc _).alloc _, (((hgo.alloc _).alloc _).alloc _).alloc _, fun i hi => ((((hg i hi).alloc _).alloc _).alloc _).alloc _, by simpa using ((Blk.new (w2.alloc (.cells #[.slice (some ⟨go, 0, none⟩) (s.size + 1) (s.size + 1)] 87)) 25 #[.slice none 0 0]).alloc (.cells #[.int .i64 ((0 : Nat) : Int)] 3)).alloc (.cells #[.int .i64 ((0 : Nat) : Int)] 3), by simpa using (Blk.new ((w2.alloc (.cells #[.slice (some ⟨go, 0, none⟩) (s.size + 1) (s.size + 1)] 87)).alloc (.cells #[.slice none 0 0] 25)) 3 #[.int .i64 ((0 : Nat) : Int)]).alloc (.cells #[.int .i64 ((0 : Nat) : Int)] 3),
        by simpa using Blk.new (((w2.alloc (.cells #[.slice (some ⟨go, 0, none⟩) (s.size + 1) (s.size + 1)] 87)).alloc (.cells #[.slice none 0 0] 25)).alloc (.cells #[.int .i64 ((0 : Nat) : Int)] 3)) 3 #[.int .i64 ((0 : Nat) : Int)], World.ownsRow_nil _ _ _ _, by simp [Value.ownBlock], by simp [Value.ownBlock], by omega, fun _ => rfl, by omega, (((hB2.alloc hs2 _).alloc (by simp; omega) _).alloc (by simp; omega) _).alloc (by simp; omega) _⟩
    clear hg hgo hb2 HP HB hB2 hP2
    go_wp2

    refine wp_loop_ghost_k (fun gn a wr => ∃ (i k : Nat) (pre : List Int) (v : Value) (bi bk : Nat) (ds : List Deferred) (u27 u28 u29 u30 u31 u32 u33 u34 u35 u36 u37 u38 u39 u40 u73 u74 : Value), (i ≤ s.size ∧ k ≤ t.size ∧ (s.size - i) + (t.size - k) ≤ gn ∧ Hid (edt p c s.data.toList t.data.toList = pre ++ edAt s t p c i k) ∧ Hid (EdP w wr s t p c bp w2.heap.size (w2.heap.size + 1) go g bi bk i k v pre) ∧ Hid (Marks w.heap.size wr ds)) ∧ a = { tmps := #[.string s, .string t, .agg #[.int .i64 (p : Int), .int .i64 (c : Int)], undef, undef, .pointer (some ⟨w.heap.size, 0, none⟩), .slice none 0 0, .int .i64 0, .pointer (some ⟨bp, 0, none⟩), .int .i64 0, .pointer (some ⟨w2.heap.size, 0, none⟩), .pointer (some ⟨w2.heap.size + 1, 0, none⟩), .pointer (some ⟨bi, 0, none⟩), .pointer (some ⟨bk, 0, none⟩), undef, .tuple #[.agg #[.string s, .string t, .int .i64 (p : Int), .int .i64 (c : Int)], .int .i64 0], .string s, .string t, .agg #[.int .i64 (p : Int), .int .i64 (c : Int)], .tuple #[.agg #[.string s, .string t, .int .i64 (p : Int), .int .i64 (c : Int)], .int .i64 0], .agg #[.string s, .string t, .int .i64 (p : Int), .int .i64 (c : Int)], .int .i64 0, .int .i64 0, .bool false, undef, .agg #[.string s, .string t, .int .i64 (p : Int), .int .i64 (c : Int)], .slice (some ⟨go, 0, none⟩) (s.size + 1) (s.size + 1), u27, u28, u29, u30, u31, u32, u33, u34, u35, u36, u37, u38, u39, u40, undef, undef, undef, undef, undef, undef, undef, undef, undef, undef, undef, undef, undef, undef, undef, undef, undef, undef, undef, undef, undef, undef, undef, undef, undef, undef, undef, undef, undef, undef, undef, undef, u73, u74, undef], defers := ds }) (s.size + t.size) ?_ ?_
    · refine ⟨0, 0, [], .slice none 0 0, w2.heap.size + 1 + 1, w2.heap.size + 1 + 1 + 1, [], ?_⟩
      (repeat apply Exists.intro)
      refine ⟨⟨by omega, by omega, by omega, hid rfl, HE, hid (Marks.nil _ _)⟩, rfl⟩
    · clear HE
      obtain ⟨bl, hbl⟩ : ∃ bl, w2.heap.size = bl := ⟨_, rfl⟩
      obtain ⟨bo, hbo⟩ : ∃ bo, w2.heap.size + 1 = bo := ⟨_, rfl⟩
      rw [hbl] at *
      rw [hbo] at *
      clear hbl hbo hbp
      rintro gn _ wr ⟨i, k, pre, v, bi, bk, ds, u27, u28, u29, u30, u31, u32, u33, u34, u35, u36, u37, u38, u39, u40, u73, u74, ⟨hi1, hk1, hgn, HPP, HR, HM⟩, rfl⟩
      intro J K hJ hK
      dsimp only
      obtain ⟨A, cap, rfl⟩ := own_shape HR.out.own
      have ci := HR.out.ib.cell 0
      have ck := HR.out.kb.cell 0
      simp only [List.getElem?_toArray, List.getElem?_cons_zero, List.getElem?_cons_succ] at ci ck
      by_cases hend : i < s.size ∨ k < t.size
      · have hlen : pre.length ≤ 40 := by
          have h1 := edt_len (p := p) (c := c) s.data.toList t.data.toList
          rw [HPP.out, List.length_append] at h1
          simp at h1
          omega
        have HH := hid hend
        have HJ := hid hJ
        clear hJ
        go_upto_region 7 with fail
        go_cut [36] from 27 to 36 (fun v wd => v = .bool true ∧ wd = wr)
        case first =>
          by_cases hil : i < s.size
          · clear hend
            go_wp2
            go_meet
            exact ⟨rfl, rfl⟩
          · have hkl : k < t.size := by omega
            clear hend
            go_wp2
            go_meet
            exact ⟨rfl, rfl⟩
        case rest =>
          obtain ⟨rfl, rfl⟩ := hcut
          clear hend
          have d0 := HR.out.pb.cell 0
          have d1 := HR.out.pb.cell 1
          have d2 := HR.out.pb.cell 2
          have d3 := HR.out.pb.cell 3
          simp only [List.getElem?_toArray, List.getElem?_cons_zero, List.getElem?_cons_succ] at d0 d1 d2 d3
          go_wp2_with (go_at_call 63; refine (steps_any _ _ _ _ _ _ _).mono ?_; rintro e w' ⟨rfl, rfl⟩)
          have hSB : SB (((wc.alloc (.cells #[.string s, .string t, .int .i64 (p : Int), .int .i64 (c : Int)] 72)).alloc (.cells #[.int .i64 (i : Int)] 3)).alloc (.cells #[.int .i64 (k : Int)] 3)) s t p c i k (wc.heap.size + 1) wc.heap.size (wc.heap.size + 1 + 1) :=
            ⟨by simpa using (Blk.new (wc.alloc (.cells #[.string s, .string t, .int .i64 (p : Int), .int .i64 (c : Int)] 72)) 3 #[.int .i64 (i : Int)]).alloc (.cells #[.int .i64 (k : Int)] 3),
             ((Blk.new wc 72 #[.string s, .string t, .int .i64 (p : Int), .int .i64 (c : Int)]).alloc _).alloc _,
             by simpa using Blk.new ((wc.alloc (.cells #[.string s, .string t, .int .i64 (p : Int), .int .i64 (c : Int)] 72)).alloc (.cells #[.int .i64 (i : Int)] 3)) 3 #[.int .i64 (k : Int)]⟩
          have hbb : Below wc.heap.size wc (((wc.alloc (.cells #[.string s, .string t, .int .i64 (p : Int), .int .i64 (c : Int)] 72)).alloc (.cells #[.int .i64 (i : Int)] 3)).alloc (.cells #[.int .i64 (k : Int)] 3)) := ((box_bel wc _).trans ((box_bel _ _).mono (by simp))).trans ((box_bel _ _).mono (by simp; omega))
          have hsz0 : (((wc.alloc (.cells #[.string s, .string t, .int .i64 (p : Int), .int .i64 (c : Int)] 72)).alloc (.cells #[.int .i64 (i : Int)] 3)).alloc (.cells #[.int .i64 (k : Int)] 3)).heap.size = wc.heap.size + 3 := by simp
          generalize (((wc.alloc (.cells #[.string s, .string t, .int .i64 (p : Int), .int .i64 (c : Int)] 72)).alloc (.cells #[.int .i64 (i : Int)] 3)).alloc (.cells #[.int .i64 (k : Int)] 3)) = w0 at hSB hbb hsz0 ⊢
          clear d0 d1 d2 d3 ci ck
          have HR0 := hid (HR.out.next hbb)
          have HM0 := hid (HM.out.below hbb)
          have hw0 := HR0.out.bel.size
          clear HR HM hbb
          refine wp_rangeFunc (gf := 87) (lb := #[.pointer (some ⟨wc.heap.size + 1, 0, none⟩), .pointer (some ⟨wc.heap.size, 0, none⟩), .pointer (some ⟨wc.heap.size + 1 + 1, 0, none⟩)]) rfl (enters_of Tryd.func87 (by kernel_rfl) rfl)
            (steps_stops 9 (by omega) s t p c i k _ _ _ w0 (by omega) (by omega) (by omega) (by omega) hSB) Kp3.trans (Kp3.put (by omega) (by omega) (by omega)) (fun _ => rfl)
            (fun pr W => (∀ y ∈ pr, bestS s t p c i k y.val = false) ∧ Below w0.heap.size w0 W) (fun cd pr W => EdIx w w0 s t p c bp bl bo go g bi bk i k pre cd pr W) (fun pr W W' row h hg hr => ⟨h.1, ownFrom_below (Nat.le_refl _) (Nat.le_refl _) pr W W' row h.2 hg hr⟩) (fun cd => edIx_own (Nat.le_refl _) hw0 cd) ⟨by simp, Below.refl _ _⟩
            (fun x a' W => ∃ Bx, (w0.heap.size ≤ Bx ∧ Blk W Bx 79 #[.int .i64 x.val.1, .int .i64 x.val.2.1, .int .i64 x.val.2.2.1, .int .i64 x.val.2.2.2]) ∧ a' = { tmps := #[.string s, .string t, .agg #[.int .i64 (p : Int), .int .i64 (c : Int)], undef, undef, .pointer (some ⟨w.heap.size, 0, none⟩), .slice none 0 0, .int .i64 0, .pointer (some ⟨bp, 0, none⟩), .int .i64 0, .pointer (some ⟨bl, 0, none⟩), .pointer (some ⟨bo, 0, none⟩), .pointer (some ⟨bi, 0, none⟩), .pointer (some ⟨bk, 0, none⟩), .pointer (some ⟨Bx, 0, none⟩), .tuple #[.agg #[.string s, .string t, .int .i64 (p : Int), .int .i64 (c : Int)], .int .i64 0], .string s, .string t, .agg #[.int .i64 (p : Int), .int .i64 (c : Int)], .tuple #[.agg #[.string s, .string t, .int .i64 (p : Int), .int .i64 (c : Int)], .int .i64 0], .agg #[.string s, .string t, .int .i64 (p : Int), .int .i64 (c : Int)], .int .i64 0, .int .i64 0, .bool false, undef, .agg #[.string s, .string t, .int .i64 (p : Int), .int .i64 (c : Int)], .slice (some ⟨go, 0, none⟩) (s.size + 1) (s.size + 1), u27, u28, u29, u30, u31, u32, u33, u34, u35, .bool true, .agg #[.string s, .string t, .int .i64 (p : Int), .int .i64 (c : Int)], .int .i64 (i : Int), .int .i64 (k : Int), .func (.func 87) #[] #[.pointer (some ⟨wc.heap.size + 1, 0, none⟩), .pointer (some ⟨wc.heap.size, 0, none⟩), .pointer (some ⟨wc.heap.size + 1 + 1, 0, none⟩)], encS x.val, undef, undef, undef, undef, undef, undef, undef, undef, undef, undef, undef, undef, undef, undef, undef, undef, undef, undef, undef, undef, undef, undef, undef, undef, undef, undef, undef, undef, undef, undef, undef, u73, u74, undef], defers := [] }) ?hAx ?assign ?body ?done ?stop
          case hAx =>
            rintro x a' _ W W' row ⟨Bx, ⟨h1, h2⟩, h3⟩ hg hr
            exact ⟨Bx, ⟨h1, blk_own h2 hg fun r e => (hr r e).2⟩, h3⟩
          case assign =>
            rintro l pr ⟨⟨e, xi, xk, xc⟩, hx⟩ W K hi hK
            have sz := hi.2.size
            dsimp only [encS]
            gi_wp2
            refine hK _ _ ((KeepsOthers.alloc W (.cells #[.int .i64 e, .int .i64 xi, .int .i64 xk, .int .i64 xc] 79)).from _) ⟨Below.heap_alloc W _ _ (by omega), Below.heap_alloc W _ _ (by omega), Below.heap_alloc W _ _ (by omega)⟩ ⟨hi.1, hi.2.alloc sz _⟩ ⟨W.heap.size, ⟨by omega, Blk.new _ _ _⟩, rfl⟩
          case body =>
            rintro l pr ⟨⟨e, xi, xk, xc⟩, hx⟩ a' W hl hI ⟨Bx, ⟨hBx, hX⟩, rfl⟩ hlen2
            dsimp only [encS]
            obtain ⟨i', k', q, e1, e2, e3, hq, hcase⟩ := steps_mem hx
            dsimp only at e1 e2 e3
            subst e1 e2 e3
            have m1 : s.data.toList.length = s.size := by simp
            have m2 : t.data.toList.length = t.size := by simp
            rw [m1, m2] at hcase
            have HW := hid (HR0.out.next hI.2)
            obtain ⟨ra, rb⟩ := HW.out.at_ (i' := i') (k' := k') (by omega) (by omega)
            obtain ⟨ra0, rb0⟩ := HW.out.at_ (i' := i) (k' := k) hi1 hk1
            have br1 := val_cost (p := p) (c := c) (i := i') (k := k') h20s h20t (by omega)
            obtain ⟨r1, hr1⟩ : ∃ r1, (val s t p c i' k').1 = r1 := ⟨_, rfl⟩
            obtain ⟨v1, hv1⟩ : ∃ v1, (val s t p c i k).1 = v1 := ⟨_, rfl⟩
            rw [hr1] at rb br1
            rw [hv1] at rb0
            have hbe : bestS s t p c i k (e, (i' : Int), (k' : Int), (q : Int)) = decide (r1 + q = v1) := by
              unfold bestS
              simp only [Int.toNat_natCast, hr1, hv1]
            have HBE := hid hbe
            have hlb := HW.out.lb.cell 0
            have ci := HW.out.ib.cell 0
            have ck := HW.out.kb.cell 0
            have x0 := hX.cell 0
            have x1 := hX.cell 1
            have x2 := hX.cell 2
            have x3 := hX.cell 3
            simp only [List.getElem?_toArray, List.getElem?_cons_zero, List.getElem?_cons_succ] at hlb ci ck x0 x1 x2 x3
            have ez : IntKind.i64.wrap ((r1 : Int) + (q : Int)) = ((r1 + q : Nat) : Int) := by rw [IntWalk.i64_in _ (by omega)]; omega
            have b1 : (i : Int) < (s.size : Int) + 1 := by omega
            have b2 : (k : Int) < (t.size : Int) + 1 := by omega
            have b3 : (i' : Int) < (s.size : Int) + 1 := by omega
            have b4 : (k' : Int) < (t.size : Int) + 1 := by omega
            have HI := hid hI
            have HX := hid hX
            have HCS := hid hcase
            clear hbe hr1 hv1 m1 m2 hcase hI hX
            by_cases hqq : r1 + q = v1
            · have hqb : (((r1 + q : Nat) : Int) == (v1 : Int)) = true := by simp; omega
              have HQ := hid hqq
              clear hqq
              gi_wp2
              refine wpIn_quiet_round (by kernel_rfl) (by kernel_rfl) (by kernel_rfl) ?_
              repeat (go_big_quiet_step (fail))
              refine wpQuiet_nil ?_
              rintro _ ⟨nq, rfl⟩
              clear ez
              have hKD : KeepsFrom w0.heap.size W (W.drewN nq) := keepsFrom_below (bdr _ _)
              have hKW : KeepsFrom 0 w0 (W.drewN nq) := (keepsFrom_below HI.out.2).trans (keepsFrom_below (bdr _ _))
              have HW2 := hid (HW.out.next (bdr W nq))
              have hX2 := HX.out.drewN nq
              clear HW HX ra rb ra0 rb0 hlb x0 x1 x2 x3 ci ck
              generalize W.drewN nq = W2 at HW2 hX2 hKD hKW ⊢
              have HK2 := hid (And.intro hKD hKW)
              clear hKD hKW
              have x0 := hX2.cell 0
              have hob := HW2.out.ob.cell 0
              simp only [List.getElem?_toArray, List.getElem?_cons_zero, List.getElem?_cons_succ] at x0 hob
              have HX2 := hid hX2
              clear hX2
              gi_wp2_with (gi_at_builtin; refine wpListIn_append_own _ rfl _ _ 25 rfl (apB pre w.heap.size (W2.heap.size + 1)) 3 i0 (.int .i64 0) 1 8 Tryd.underlying25 hi0 hz0 hz1 hz2 rfl (by decide) _ _ _ rfl HW2.out.apOwn ⟨W2.heap.size, 0, none⟩ 1 1 [.int .i64 e] rfl rfl (cell_one_new _ _ _) (by simp [Value.oneCell']) (by unfold maxLen; omega) (by omega) (by have := HW2.out.apLe; simp; omega) ?_; intro v' w5 hown' hgrow _; obtain ⟨g', cap', rfl⟩ := ownsRow_succ hown'; have HA := hid (HW2.out.app hown' hgrow); have HX5 := hid (own_type (HW2.out.own.alloc _) hgrow (HX2.out.alloc _) (by decide)); clear hown' hgrow; have hc5 := HA.out.2.1.cell 0; have hf5 := HA.out.2.1.frozen 0; simp only [List.getElem?_toArray, List.getElem?_cons_zero] at hc5)
              have HE6 := hid HA.out.1
              have HK6 := hid (And.intro (HK2.out.1.trans (HA.out.2.2.from _)) (HK2.out.2.trans (HA.out.2.2.from _)))
              have hX6 := HX5.out.far (p := ⟨bo, 0, none⟩) (HX5.out.ne_ HA.out.2.1 (by decide)) (.slice (some ⟨g', 0, none⟩) (pre.length + 1) cap')
              clear HA HX5 hc5 hf5 x0 hob HK2 HX2 HW2
              generalize w5.setCell ⟨bo, 0, none⟩ (.slice (some ⟨g', 0, none⟩) (pre.length + 1) cap') = w6 at HE6 HK6 hX6 ⊢
              have x1 := hX6.cell 1
              have x2 := hX6.cell 2
              have fi := HE6.out.ib.frozen 0
              have fk := HE6.out.kb.frozen 0
              have ci := HE6.out.ib.cell 0
              have ck := HE6.out.kb.cell 0
              simp only [List.getElem?_toArray, List.getElem?_cons_zero, List.getElem?_cons_succ] at x1 x2 ci ck
              have nik := HE6.out.ik
              have nki := nik.symm
              have HX6 := hid hX6
              clear hX6
              have hmx : Tryd.prog.follows .mixedOrders = true := by kernel_rfl
              refine wpIn_region_held (S := fun w' => w'.cell? ⟨Bx, 1, none⟩ = some (.int .i64 (i' : Int)) ∧ w'.cell? ⟨Bx, 2, none⟩ = some (.int .i64 (k' : Int))) hmx (by kernel_rfl) (fun _ _ h => h) ?_
              have hS : Hid (w6.drew.cell? ⟨Bx, 1, none⟩ = some (.int .i64 (i' : Int)) ∧ w6.drew.cell? ⟨Bx, 2, none⟩ = some (.int .i64 (k' : Int))) := hid ⟨x1, x2⟩
              refine takeR (i := 0) (v := ?_) rfl (by kernel_rfl) (by kernel_rfl) (by kernel_rfl) (by rfl) ?_ hS.out ?_
              rotate_left
              · rintro w' ⟨sx1, sx2⟩
                go_simp <;> with_reducible rfl
              simp only [Act.put, List.setIfInBounds_toArray, List.set_cons_zero, List.set_cons_succ]
              refine takeR (i := 1) (v := ?_) rfl (by kernel_rfl) (by kernel_rfl) (by kernel_rfl) (by rfl) ?_ hS.out ?_
              rotate_left
              · rintro w' ⟨sx1, sx2⟩
                go_simp <;> with_reducible rfl
              simp only [Act.put, List.setIfInBounds_toArray, List.set_cons_zero, List.set_cons_succ]
              refine takeR (i := 2) (v := ?_) rfl (by kernel_rfl) (by kernel_rfl) (by kernel_rfl) (by rfl) ?_ hS.out ?_
              rotate_left
              · rintro w' ⟨sx1, sx2⟩
                go_simp <;> with_reducible rfl
              simp only [Act.put, List.setIfInBounds_toArray, List.set_cons_zero, List.set_cons_succ]
              refine takeR (i := 3) (v := ?_) rfl (by kernel_rfl) (by kernel_rfl) (by kernel_rfl) (by rfl) ?_ hS.out ?_
              rotate_left
              · rintro w' ⟨sx1, sx2⟩
                go_simp <;> with_reducible rfl
              simp only [Act.put, List.setIfInBounds_toArray, List.set_cons_zero, List.set_cons_succ]
              refine oneR (i := 4) rfl (by kernel_rfl) (by rfl) fun K9 hK9 => ?_
              go_simp
              refine hK9.out _ _ ?_ ?_
              · exact ⟨cell_far x1 (HX6.out.ne_ HE6.out.ib (by decide)), cell_far x2 (HX6.out.ne_ HE6.out.ib (by decide))⟩
              clear hK9 K9
              refine oneR (i := 5) rfl (by kernel_rfl) (by rfl) fun K9 hK9 => ?_
              go_simp
              refine hK9.out _ _ ?_ ?_
              · exact ⟨cell_far (cell_far x1 (HX6.out.ne_ HE6.out.ib (by decide))) (HX6.out.ne_ HE6.out.kb (by decide)), cell_far (cell_far x2 (HX6.out.ne_ HE6.out.ib (by decide))) (HX6.out.ne_ HE6.out.kb (by decide))⟩
              clear hK9 K9
              refine doneR (by kernel_rfl) ?_
              have HE7 := hid (((HE6.out.next (bdr w6 1)).setI i').setK k')
              have HK7 := hid (((KeepsOthers.drew w6).trans (KeepsOthers.setCell w6.drew ⟨bi, 0, none⟩ (.int .i64 (i' : Int)))).trans (KeepsOthers.setCell _ ⟨bk, 0, none⟩ (.int .i64 (k' : Int))))
              gi_wp2
              refine ⟨HK6.out.1.trans (HK7.out.from _), rfl, HK6.out.2.trans (HK7.out.from _), pr, ⟨(e, (i' : Int), (k' : Int), (q : Int)), hx⟩, i', k', _, ⟨rfl, HI.out.1, HBE.out.trans (decide_eq_true HQ.out), rfl, rfl⟩, ?_, HE7.out⟩
              have := HCS.out
              omega
            · have hqb : (((r1 + q : Nat) : Int) == (v1 : Int)) = false := by simp; omega
              have HF := hid (HBE.out.trans (decide_eq_false hqq))
              clear hqq
              gi_wp2
              refine wpIn_quiet_round (by kernel_rfl) (by kernel_rfl) (by kernel_rfl) ?_
              repeat (go_big_quiet_step (fail))
              refine wpQuiet_nil ?_
              rintro _ ⟨nq, rfl⟩
              clear ez
              gi_wp2
              refine ⟨keepsFrom_below (bdr _ _), ⟨rfl, rfl, rfl⟩, fun y hy => ?_, bdn HI.out.2 _⟩
              rcases List.mem_append.1 hy with h | h
              · exact HI.out.1 y h
              · obtain rfl := List.mem_singleton.1 h
                exact HF.out
          case done =>
            intro D xs W hD hxs hI hM
            exfalso
            obtain ⟨x, hx, hbx⟩ := best_some (p := p) (c := c) HH.out
            rw [← hxs] at hx
            obtain ⟨y, hy, rfl⟩ := List.mem_map.1 hx
            rw [hI.1 y hy] at hbx
            cases hbx
          case stop =>
            rintro D cd pr W hD hSp ⟨rfl, hKF, pr0, x, i', k', v', ⟨rfl, hn, hbx, ex1, ex2⟩, hb, hE⟩ hMk
            obtain ⟨post, hpost⟩ := hSp
            rw [List.map_append, List.map_singleton, List.append_assoc, List.singleton_append] at hpost
            obtain ⟨e, i2, k2, f1, f2, f3, hed⟩ := edAt_first hpost.symm (fun y hy => by obtain ⟨z, hz, rfl⟩ := List.mem_map.1 hy; exact hn z hz) hbx
            obtain rfl : i2 = i' := by rw [ex1] at f2; omega
            obtain rfl : k2 = k' := by rw [ex2] at f3; omega
            rw [f1] at hE
            clear hpost hbx ex1 ex2 f2 f3 f1 hn
            have HM1 := hid ((HM0.out.keeps hKF).push (HM0.out) (by omega) hMk hD)
            have HE1 := hid hE
            have HED := hid hed
            have ci := hE.ib.cell 0
            have ck := hE.kb.cell 0
            simp only [List.getElem?_toArray, List.getElem?_cons_zero, List.getElem?_cons_succ] at ci ck
            clear hKF hed hE
            go_wp2
            obtain ⟨gm, hgm⟩ : ∃ gm, gm + 1 = (s.size - i) + (t.size - k) := ⟨(s.size - i) + (t.size - k) - 1, by have := HH.out; omega⟩
            refine Handed.intro gm (by omega) (HJ.out _ _ _ ?_)
            refine ⟨i2, k2, pre ++ [(e : Int)], v', W.heap.size, W.heap.size + 1, { target := .collected D, args := #[] } :: ds, ?_⟩
            (repeat apply Exists.intro)
            refine ⟨⟨by omega, by omega, by omega, hid ?_, hid (HE1.out.fresh i2 k2), hid ((HM1.out.alloc _).alloc _)⟩, rfl⟩
            rw [HPP.out, HED.out, List.append_assoc]
            rfl
      · obtain rfl : i = s.size := by omega
        obtain rfl : k = t.size := by omega
        have co := HR.out.ob.cell 0
        simp only [List.getElem?_toArray, List.getElem?_cons_zero, List.getElem?_cons_succ] at co
        clear hJ
        go_wp2
        refine leaves_marks HM.out HR.out.bel.size fun w' hw' => ?_
        refine ⟨.tuple #[.slice A pre.length cap, .int .i64 0], by simp [results, Tryd.results35, go_sem], A, pre.length, cap, by rw [HZ.out], ?_, HR.out.bel.trans hw'.bel⟩
        rw [HZ.out, if_pos rfl, Int.toNat_natCast, Int.toNat_natCast, HPP.out, edAt_end, List.append_nil]
        exact IntsV.shut (IntsV.own HR.out.own rfl (by have h1 := edt_len (p := p) (c := c) s.data.toList t.data.toList; rw [HPP.out, List.length_append] at h1; simp at h1; omega)) hw'

  · have HZ := hid hz
    have hne : (codeP s t p c != 0) = true := by simpa using hz
    have HB := hid (btr hb1 (box_bel w1 (.cells #[.string x, .string y, .int .i64 u, .int .i64 v] 72)) hb1.size)
    clear hb1 hz h0
    go_wp2
    refine leaves_marks (Marks.nil _ _) (Nat.le_refl _) fun w' hw' => ?_
    refine ⟨.tuple #[.slice none 0 0, .int .i64 (codeP s t p c)], by simp [results, Tryd.results35, go_sem], none, 0, 0, rfl, ?_, btr HB.out hw'.bel HB.out.size⟩
    rw [if_neg HZ.out]
    exact IntsV.nil _
end Go.Proofs.YtmhlgnhfbickdaaDoor
