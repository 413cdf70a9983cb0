/-
  What edits cost: the program. Conditions: the prints are short, the list lies in memory.
-/
import Derived.Test.YtmhlgnhfbickdaaDoorP15
import Derived.Test.YtmhlgnhfbickdaaDoorP17
namespace Go.Proofs.YtmhlgnhfbickdaaDoor
set_option linter.unusedVariables false
set_option linter.unusedSimpArgs false
open Go.RowKit Go.Shelf
attribute [local go_sem] Oper.semAt_some

/-- what stands while edits are gone over -/
structure CoP (w wr : World) (s t : ByteArray) (p c i k sm : Nat) : Prop where
  pb : Blk wr w.heap.size 72 #[.string s, .string t, .int .i64 (p : Int), .int .i64 (c : Int)]
  sb : Blk wr (w.heap.size + 1) 3 #[.int .i64 (sm : Int)]
  ib : Blk wr (w.heap.size + 1 + 1) 3 #[.int .i64 (i : Int)]
  kb : Blk wr (w.heap.size + 1 + 1 + 1) 3 #[.int .i64 (k : Int)]
  bel : Below w.heap.size w wr
section
variable {w wr wr' : World} {s t : ByteArray} {p c i k sm : Nat}
theorem CoP.next (h : CoP w wr s t p c i k sm) (hb : Below wr.heap.size wr wr') : CoP w wr' s t p c i k sm :=
  ⟨h.pb.below' hb, h.sb.below' hb, h.ib.below' hb, h.kb.below' hb, btr h.bel hb h.bel.size⟩
theorem CoP.keep {row : Option Nat} (h : CoP w wr s t p c i k sm) (hg : wr.grownBy wr' row) (hr : ∀ r, row = some r → w.heap.size ≤ r ∧ ∃ o : Obj, wr.heap[r]? = some o ∧ o.isCells = false) : CoP w wr' s t p c i k sm := by
  have hr' := fun r e => (hr r e).2
  exact ⟨blk_own h.pb hg hr', blk_own h.sb hg hr', blk_own h.ib hg hr', blk_own h.kb hg hr', h.bel.grown hg h.bel.size fun r e => (hr r e).1⟩
theorem CoP.setI (h : CoP w wr s t p c i k sm) (i' : Nat) : CoP w (wr.setCell ⟨w.heap.size + 1 + 1, 0, none⟩ (.int .i64 (i' : Int))) s t p c i' k sm :=
  ⟨h.pb.far (p := ⟨w.heap.size + 1 + 1, 0, none⟩) (by show w.heap.size ≠ w.heap.size + 1 + 1; omega) _, h.sb.far (p := ⟨w.heap.size + 1 + 1, 0, none⟩) (by show w.heap.size + 1 ≠ w.heap.size + 1 + 1; omega) _, by simpa using h.ib.set_ 0 (.int .i64 (i' : Int)), h.kb.far (p := ⟨w.heap.size + 1 + 1, 0, none⟩) (by show w.heap.size + 1 + 1 + 1 ≠ w.heap.size + 1 + 1; omega) _, h.bel.setCell (p := ⟨w.heap.size + 1 + 1, 0, none⟩) (by show w.heap.size ≤ w.heap.size + 1 + 1; omega) _⟩
theorem CoP.setK (h : CoP w wr s t p c i k sm) (k' : Nat) : CoP w (wr.setCell ⟨w.heap.size + 1 + 1 + 1, 0, none⟩ (.int .i64 (k' : Int))) s t p c i k' sm :=
  ⟨h.pb.far (p := ⟨w.heap.size + 1 + 1 + 1, 0, none⟩) (by show w.heap.size ≠ w.heap.size + 1 + 1 + 1; omega) _, h.sb.far (p := ⟨w.heap.size + 1 + 1 + 1, 0, none⟩) (by show w.heap.size + 1 ≠ w.heap.size + 1 + 1 + 1; omega) _, h.ib.far (p := ⟨w.heap.size + 1 + 1 + 1, 0, none⟩) (by show w.heap.size + 1 + 1 ≠ w.heap.size + 1 + 1 + 1; omega) _, by simpa using h.kb.set_ 0 (.int .i64 (k' : Int)), h.bel.setCell (p := ⟨w.heap.size + 1 + 1 + 1, 0, none⟩) (by show w.heap.size ≤ w.heap.size + 1 + 1 + 1; omega) _⟩
theorem CoP.setS (h : CoP w wr s t p c i k sm) (sm' : Nat) : CoP w (wr.setCell ⟨w.heap.size + 1, 0, none⟩ (.int .i64 (sm' : Int))) s t p c i k sm' :=
  ⟨h.pb.far (p := ⟨w.heap.size + 1, 0, none⟩) (by show w.heap.size ≠ w.heap.size + 1; omega) _, by simpa using h.sb.set_ 0 (.int .i64 (sm' : Int)), h.ib.far (p := ⟨w.heap.size + 1, 0, none⟩) (by show w.heap.size + 1 + 1 ≠ w.heap.size + 1; omega) _, h.kb.far (p := ⟨w.heap.size + 1, 0, none⟩) (by show w.heap.size + 1 + 1 + 1 ≠ w.heap.size + 1; omega) _, h.bel.setCell (p := ⟨w.heap.size + 1, 0, none⟩) (by show w.heap.size ≤ w.heap.size + 1; omega) _⟩
theorem CoP.setO (h : CoP w wr s t p c i k sm) {a : Addr} (ha : w.heap.size + 1 + 1 + 1 < a.block) (v : Value) : CoP w (wr.setCell a v) s t p c i k sm :=
  ⟨h.pb.far (p := a) (by omega) _, h.sb.far (p := a) (by omega) _, h.ib.far (p := a) (by omega) _, h.kb.far (p := a) (by omega) _, h.bel.setCell (by omega) _⟩
end
/-- what a round that goes on keeps -/
def CoI (w0 : World) {s t : ByteArray} {p c i k : Nat} (e : Int) (pr : List (StS s.data.toList t.data.toList (p : Int) (c : Int) i k)) (W : World) : Prop := (∀ y ∈ pr, y.val.1 ≠ e) ∧ Below w0.heap.size w0 W
/-- what a round that ends the loop leaves -/
def CoIx (w w0 : World) (fb : Nat) (s t : ByteArray) (p c i k sm : Nat) (e : Int) (cd : Code) (pr : List (StS s.data.toList t.data.toList (p : Int) (c : Int) i k)) (W : World) : Prop :=
  cd = .exit 2 ∧ KeepsFrom 0 w0 W ∧ ∃ (x : StS s.data.toList t.data.toList (p : Int) (c : Int) i k) (i' k' q : Nat), (x.val = (e, (i' : Int), (k' : Int), (q : Int))) ∧ CoP w W s t p c i' k' (sm + q) ∧ Blk W fb 4 #[.bool true]
theorem coIx_own {w w0 : World} {fb : Nat} {s t : ByteArray} {p c i k sm : Nat} {e : Int} {B : Nat} (h0 : w0.heap.size ≤ B) (h1 : w.heap.size ≤ B) (cd : Code) : OwnFrom B (fun pr W => CoIx w w0 fb s t p c i k sm e cd pr W) := by
  rintro x W W' row ⟨rfl, hK, y, i', k', q, h2, h3, h4⟩ hg hr
  exact ⟨rfl, ownFrom_keepsFrom h0 x W W' row hK hg hr, y, i', k', q, h2, h3.keep hg fun r e => ⟨Nat.le_trans h1 (hr r e).1, (hr r e).2⟩, blk_own h4 hg fun r e => (hr r e).2⟩
/-- an edit that no step bears -/
theorem cost_none {s t : ByteArray} {p c i k : Nat} {e : Int} {l : List Int} (h : ∀ x ∈ stepsL s.data.toList t.data.toList (p : Int) (c : Int) i k, x.1 ≠ e) : cstAt s t p c (e :: l) i k = none := by
  by_cases he : 1 ≤ e ∧ e ≤ 4
  · obtain ⟨n, rfl⟩ : ∃ n : Nat, e = (n : Int) := ⟨e.toNat, by omega⟩
    rw [cstAt_cons (by omega)]
    cases hok : okS s.data.toList t.data.toList i k n
    · rfl
    · exact absurd rfl (h _ (steps_has (p := p) (c := c) (by omega) hok))
  · exact cstAt_other he l
theorem cost_some {s t : ByteArray} {p c i k i' k' q : Nat} {e : Int} {l : List Int} (h : ((e, (i' : Int), (k' : Int), (q : Int)) : St) ∈ stepsL s.data.toList t.data.toList (p : Int) (c : Int) i k) :
    cstAt s t p c (e :: l) i k = (cstAt s t p c l i' k').map (q + ·) := by
  obtain ⟨n, hn, hok, hx⟩ := steps_of h
  simp only [Prod.mk.injEq] at hx
  obtain ⟨rfl, h1, h2, h3⟩ := hx
  rw [cstAt_cons hn, hok, if_pos rfl, show i + diS n = i' by omega, show k + dkS n = k' by omega, show coN p c n = q by omega]

set_option maxRecDepth 100000 in
set_option maxHeartbeats 8000000 in
/-- (pair).cost -/
theorem cost_any (s t : ByteArray) (p c n cap : Nat) (A : Option Addr) (f : Nat → Int) (w : World) (hs : s.size ≤ 20) (ht : t.size ≤ 20) (hp : p ≤ 9) (hc : c ≤ 9) (hl : HoursAt w A n f) :
    Calls Tryd.prog 64 #[.agg #[.string s, .string t, .int .i64 (p : Int), .int .i64 (c : Int)], .slice A n cap] w (GoneR w s t p c n f) := by
  have hb0 := hid (box_bel w (.cells #[.string s, .string t, .int .i64 (p : Int), .int .i64 (c : Int)] 72))
  refine calls_marks Tryd.func64 rfl ?_
  simp only [Tryd.ntmps64, List.size_toArray, List.length_cons, List.length_nil, Nat.reduceAdd, Nat.reduceSub, Array.replicate_succ, Array.replicate_zero, List.push_toArray, List.append_toArray, List.nil_append, List.cons_append]
  by_cases h100 : 100 < n
  · have HC : Hid (cstO s t p c n f = none) := hid (if_pos h100)
    have h1 : (100 : Int) < (n : Int) := by omega
    clear h100 hl
    go_wp2
    refine leaves_marks (Marks.nil _ _) (Nat.le_refl _) fun w' hw' => ?_
    refine ⟨.tuple #[.int .i64 0, .bool false], by simp [results, Tryd.results64, go_sem], 0, by rw [HC.out]; rfl, fun x hx => ?_, btr hb0.out hw'.bel hb0.out.size⟩
    rw [HC.out] at hx; cases hx
  · have HC : Hid (cstO s t p c n f = cstAt s t p c (remL n f 0) 0 0) := hid (if_neg h100)
    have h1 : (n : Int) ≤ 100 := by omega
    obtain ⟨hn, b, off, hlt, hA, hcl⟩ := hl
    have HL := hid (And.intro hlt hcl)
    clear h100 hlt hcl hn
    go_wp2
    have HE : Hid (CoP w ((((w.alloc (.cells #[.string s, .string t, .int .i64 (p : Int), .int .i64 (c : Int)] 72)).alloc (.cells #[.int .i64 ((0 : Nat) : Int)] 3)).alloc (.cells #[.int .i64 ((0 : Nat) : Int)] 3)).alloc (.cells #[.int .i64 ((0 : Nat) : Int)] 3)) s t p c 0 0 0) := by
      refine hid ⟨(((Blk.new _ _ _).alloc _).alloc _).alloc _, by simpa using ((Blk.new (w.alloc (.cells #[.string s, .string t, .int .i64 (p : Int), .int .i64 (c : Int)] 72)) 3 #[.int .i64 ((0 : Nat) : Int)]).alloc (.cells #[.int .i64 ((0 : Nat) : Int)] 3)).alloc (.cells #[.int .i64 ((0 : Nat) : Int)] 3),
        by simpa using (Blk.new ((w.alloc (.cells #[.string s, .string t, .int .i64 (p : Int), .int .i64 (c : Int)] 72)).alloc (.cells #[.int .i64 ((0 : Nat) : Int)] 3)) 3 #[.int .i64 ((0 : Nat) : Int)]).alloc (.cells #[.int .i64 ((0 : Nat) : Int)] 3),
        by simpa using Blk.new (((w.alloc (.cells #[.string s, .string t, .int .i64 (p : Int), .int .i64 (c : Int)] 72)).alloc (.cells #[.int .i64 ((0 : Nat) : Int)] 3)).alloc (.cells #[.int .i64 ((0 : Nat) : Int)] 3)) 3 #[.int .i64 ((0 : Nat) : Int)],
        ((hb0.out.alloc (by simp) _).alloc (by simp; omega) _).alloc (by simp; omega) _⟩
    refine wp_loop_ghost_k (fun gn a wr => ∃ (j i k sm : Nat) (ds : List Deferred) (u10 u11 u15 u19 u20 u21 u22 u23 u24 u25 u39 u40 u41 : Value), (j ≤ n ∧ n - j ≤ gn ∧ i ≤ s.size ∧ k ≤ t.size ∧ sm ≤ 9 * j ∧ Hid (cstO s t p c n f = (cstAt s t p c (remL n f j) i k).map (sm + ·)) ∧ Hid (CoP w wr s t p c i k sm) ∧ Hid (Marks w.heap.size wr ds)) ∧ a = { tmps := #[.agg #[.string s, .string t, .int .i64 (p : Int), .int .i64 (c : Int)], .slice A n cap, .pointer (some ⟨w.heap.size, 0, none⟩), undef, .int .i64 0, .bool false, .pointer (some ⟨w.heap.size + 1, 0, none⟩), .pointer (some ⟨w.heap.size + 1 + 1, 0, none⟩), .pointer (some ⟨w.heap.size + 1 + 1 + 1, 0, none⟩), undef, u10, u11, undef, .slice A n cap, .int .i64 (n : Int), u15, .slice A n cap, .int .i64 (n : Int), .int .i64 (j : Int), u19, u20, u21, u22, u23, u24, u25, undef, undef, undef, undef, undef, undef, undef, undef, undef, undef, undef, undef, undef, u39, u40, u41, undef, undef, undef, undef, undef, undef, undef, undef, undef, undef, undef, undef, undef], defers := ds }) n ?_ ?_
    · refine ⟨0, 0, 0, 0, [], ?_⟩
      (repeat apply Exists.intro)
      refine ⟨⟨by omega, by omega, by omega, by omega, by omega, hid (by rw [HC.out]; simp), HE, hid (Marks.nil _ _)⟩, rfl⟩
    · clear HE HC
      rintro gn _ wr ⟨j, i, k, sm, ds, u10, u11, u15, u19, u20, u21, u22, u23, u24, u25, u39, u40, u41, ⟨hj, hgn, hi1, hk1, hsm, HS, HR, HM⟩, rfl⟩
      intro J K hJ hK
      dsimp only
      have ci := HR.out.ib.cell 0
      have ck := HR.out.kb.cell 0
      have cs := HR.out.sb.cell 0
      have d0 := HR.out.pb.cell 0
      have d1 := HR.out.pb.cell 1
      have d2 := HR.out.pb.cell 2
      have d3 := HR.out.pb.cell 3
      have lw := HR.out.kb.lt
      have lp := HR.out.pb.lt
      have li := HR.out.ib.lt
      have ls := HR.out.sb.lt
      simp only [List.getElem?_toArray, List.getElem?_cons_zero, List.getElem?_cons_succ] at ci ck cs d0 d1 d2 d3
      by_cases hjn : j < n
      · obtain rfl := hA (by omega)
        have hcj := (HR.out.bel.cell (p := ⟨b, off + j, none⟩) (HL.out.1 (by omega))).trans (HL.out.2 j hjn)
        obtain ⟨e, he⟩ : ∃ e, f j = e := ⟨_, rfl⟩
        have hrem := remL_cons (f := f) hjn
        rw [he] at hcj hrem
        have HRE := hid hrem
        have HJ := hid hJ
        clear hJ hrem he cs
        go_wp2_with (go_at_call 63; refine (steps_any _ _ _ _ _ _ _).mono ?_; rintro e w' ⟨rfl, rfl⟩)
        clear d0 d1 d2 d3 ci ck hcj
        have hSB : SB (((((wr.alloc (.cells #[.int .i64 e] 3)).alloc (.cells #[.bool false] 4)).alloc (.cells #[.string s, .string t, .int .i64 (p : Int), .int .i64 (c : Int)] 72)).alloc (.cells #[.int .i64 (i : Int)] 3)).alloc (.cells #[.int .i64 (k : Int)] 3)) s t p c i k (wr.heap.size + 1 + 1 + 1) (wr.heap.size + 1 + 1) (wr.heap.size + 1 + 1 + 1 + 1) :=
          ⟨by simpa using (Blk.new (((wr.alloc (.cells #[.int .i64 e] 3)).alloc (.cells #[.bool false] 4)).alloc (.cells #[.string s, .string t, .int .i64 (p : Int), .int .i64 (c : Int)] 72)) 3 #[.int .i64 (i : Int)]).alloc (.cells #[.int .i64 (k : Int)] 3),
           by simpa using ((Blk.new ((wr.alloc (.cells #[.int .i64 e] 3)).alloc (.cells #[.bool false] 4)) 72 #[.string s, .string t, .int .i64 (p : Int), .int .i64 (c : Int)]).alloc (.cells #[.int .i64 (i : Int)] 3)).alloc (.cells #[.int .i64 (k : Int)] 3),
           by simpa using Blk.new ((((wr.alloc (.cells #[.int .i64 e] 3)).alloc (.cells #[.bool false] 4)).alloc (.cells #[.string s, .string t, .int .i64 (p : Int), .int .i64 (c : Int)] 72)).alloc (.cells #[.int .i64 (i : Int)] 3)) 3 #[.int .i64 (k : Int)]⟩
        have hEB : Blk (((((wr.alloc (.cells #[.int .i64 e] 3)).alloc (.cells #[.bool false] 4)).alloc (.cells #[.string s, .string t, .int .i64 (p : Int), .int .i64 (c : Int)] 72)).alloc (.cells #[.int .i64 (i : Int)] 3)).alloc (.cells #[.int .i64 (k : Int)] 3)) wr.heap.size 3 #[.int .i64 e] := ((((Blk.new _ _ _).alloc _).alloc _).alloc _).alloc _
        have hFB : Blk (((((wr.alloc (.cells #[.int .i64 e] 3)).alloc (.cells #[.bool false] 4)).alloc (.cells #[.string s, .string t, .int .i64 (p : Int), .int .i64 (c : Int)] 72)).alloc (.cells #[.int .i64 (i : Int)] 3)).alloc (.cells #[.int .i64 (k : Int)] 3)) (wr.heap.size + 1) 4 #[.bool false] := by
          simpa using (((Blk.new (wr.alloc (.cells #[.int .i64 e] 3)) 4 #[.bool false]).alloc (.cells #[.string s, .string t, .int .i64 (p : Int), .int .i64 (c : Int)] 72)).alloc (.cells #[.int .i64 (i : Int)] 3)).alloc (.cells #[.int .i64 (k : Int)] 3)
        have hbb : Below wr.heap.size wr (((((wr.alloc (.cells #[.int .i64 e] 3)).alloc (.cells #[.bool false] 4)).alloc (.cells #[.string s, .string t, .int .i64 (p : Int), .int .i64 (c : Int)] 72)).alloc (.cells #[.int .i64 (i : Int)] 3)).alloc (.cells #[.int .i64 (k : Int)] 3)) :=
          (((((box_bel wr _).trans ((box_bel _ _).mono (by simp))).trans ((box_bel _ _).mono (by simp; omega))).trans ((box_bel _ _).mono (by simp; omega))).trans ((box_bel _ _).mono (by simp; omega)))
        have hsz0 : (((((wr.alloc (.cells #[.int .i64 e] 3)).alloc (.cells #[.bool false] 4)).alloc (.cells #[.string s, .string t, .int .i64 (p : Int), .int .i64 (c : Int)] 72)).alloc (.cells #[.int .i64 (i : Int)] 3)).alloc (.cells #[.int .i64 (k : Int)] 3)).heap.size = wr.heap.size + 5 := by simp
        generalize (((((wr.alloc (.cells #[.int .i64 e] 3)).alloc (.cells #[.bool false] 4)).alloc (.cells #[.string s, .string t, .int .i64 (p : Int), .int .i64 (c : Int)] 72)).alloc (.cells #[.int .i64 (i : Int)] 3)).alloc (.cells #[.int .i64 (k : Int)] 3)) = w0 at hSB hEB hFB hbb hsz0 ⊢
        have HR0 := hid (HR.out.next hbb)
        have HM0 := hid (HM.out.below hbb)
        have HEF := hid (And.intro hEB hFB)
        have hw0 := HR0.out.bel.size
        have hsz1 : wr.heap.size + 4 < w0.heap.size := by omega
        clear HR HM hbb hEB hFB hsz0
        refine wp_rangeFunc (gf := 87) (lb := #[.pointer (some ⟨wr.heap.size + 1 + 1 + 1, 0, none⟩), .pointer (some ⟨wr.heap.size + 1 + 1, 0, none⟩), .pointer (some ⟨wr.heap.size + 1 + 1 + 1 + 1, 0, none⟩)]) rfl (enters_of Tryd.func87 (by kernel_rfl) rfl)
          (steps_stops 9 (by omega) s t p c i k _ _ _ w0 (by omega) (by omega) (by omega) (by omega) hSB) Kp3.trans (Kp3.put (by omega) (by omega) (by omega)) (fun _ => rfl)
          (fun pr W => CoI w0 e pr W) (fun cd pr W => CoIx w w0 (wr.heap.size + 1) s t p c i k sm e cd pr W) (fun pr W W' row h hg hr => ⟨h.1, ownFrom_below (Nat.le_refl _) (Nat.le_refl _) pr W W' row h.2 hg hr⟩) (fun cd => coIx_own (Nat.le_refl _) hw0 cd) ⟨by simp, Below.refl _ _⟩
          (fun x a' W => ∃ Bx, (w0.heap.size ≤ Bx ∧ Blk W Bx 79 #[.int .i64 x.val.1, .int .i64 x.val.2.1, .int .i64 x.val.2.2.1, .int .i64 x.val.2.2.2]) ∧ a' = { tmps := #[.agg #[.string s, .string t, .int .i64 (p : Int), .int .i64 (c : Int)], .slice (some ⟨b, off, none⟩) n cap, .pointer (some ⟨w.heap.size, 0, none⟩), undef, .int .i64 0, .bool false, .pointer (some ⟨w.heap.size + 1, 0, none⟩), .pointer (some ⟨w.heap.size + 1 + 1, 0, none⟩), .pointer (some ⟨w.heap.size + 1 + 1 + 1, 0, none⟩), undef, .pointer (some ⟨wr.heap.size, 0, none⟩), .pointer (some ⟨wr.heap.size + 1, 0, none⟩), .pointer (some ⟨Bx, 0, none⟩), .slice (some ⟨b, off, none⟩) n cap, .int .i64 (n : Int), u15, .slice (some ⟨b, off, none⟩) n cap, .int .i64 (n : Int), .int .i64 (j : Int), .bool true, .pointer (some ⟨b, off + j, none⟩), .int .i64 e, .agg #[.string s, .string t, .int .i64 (p : Int), .int .i64 (c : Int)], .int .i64 (i : Int), .int .i64 (k : Int), .func (.func 87) #[] #[.pointer (some ⟨wr.heap.size + 1 + 1 + 1, 0, none⟩), .pointer (some ⟨wr.heap.size + 1 + 1, 0, none⟩), .pointer (some ⟨wr.heap.size + 1 + 1 + 1 + 1, 0, none⟩)], encS x.val, undef, undef, undef, undef, undef, undef, undef, undef, undef, undef, undef, undef, u39, u40, u41, undef, undef, undef, undef, undef, undef, undef, undef, undef, undef, undef, undef, undef], defers := [] }) ?hAx ?assign ?body ?done ?stop
        case hAx =>
          rintro x a' _ W W' row ⟨Bx, ⟨h1, h2⟩, h3⟩ hg hr
          exact ⟨Bx, ⟨h1, blk_own h2 hg fun r e => (hr r e).2⟩, h3⟩
        case assign =>
          rintro l pr ⟨⟨xe, xi, xk, xc⟩, hx⟩ W K hi hK
          have sz := hi.2.size
          dsimp only [encS]
          gi_wp2
          refine hK _ _ ((KeepsOthers.alloc W (.cells #[.int .i64 xe, .int .i64 xi, .int .i64 xk, .int .i64 xc] 79)).from _) ⟨Below.heap_alloc W _ _ (by omega), Below.heap_alloc W _ _ (by omega), Below.heap_alloc W _ _ (by omega)⟩ ⟨hi.1, hi.2.alloc sz _⟩ ⟨W.heap.size, ⟨by omega, Blk.new _ _ _⟩, rfl⟩
        case body =>
          rintro l pr ⟨⟨xe, xi, xk, xc⟩, hx⟩ a' W hl hI ⟨Bx, ⟨hBx, hX⟩, rfl⟩ hlen2
          dsimp only [encS]
          obtain ⟨i', k', q, e1, e2, e3, hq, hcase⟩ := steps_mem hx
          dsimp only at e1 e2 e3
          subst e1 e2 e3
          have HW := hid (HR0.out.next hI.2)
          have hEW := HEF.out.1.below' hI.2
          have ce := hEW.cell 0
          have x0 := hX.cell 0
          have x1 := hX.cell 1
          have x2 := hX.cell 2
          have x3 := hX.cell 3
          simp only [List.getElem?_toArray, List.getElem?_cons_zero, List.getElem?_cons_succ] at ce x0 x1 x2 x3
          have HI := hid hI
          have HX := hid hX
          have HCS := hid hcase
          clear hcase hI hX hEW
          by_cases hqq : xe = e
          · subst hqq
            have cs := HW.out.sb.cell 0
            have fs := HW.out.sb.frozen 0
            have fi := HW.out.ib.frozen 0
            have fk := HW.out.kb.frozen 0
            have ci := HW.out.ib.cell 0
            have ck := HW.out.kb.cell 0
            have hFW := HEF.out.2.below' HI.out.2
            have cf := hFW.cell 0
            have ff := hFW.frozen 0
            have hwsz := HI.out.2.size
            simp only [List.getElem?_toArray, List.getElem?_cons_zero, List.getElem?_cons_succ] at cs ci ck cf
            have HFW := hid hFW
            clear hFW
            gi_wp2
            have hmx : Tryd.prog.follows .mixedOrders = true := by kernel_rfl
            refine wpIn_region_held (S := fun w' => w'.cell? ⟨Bx, 1, none⟩ = some (.int .i64 (i' : Int)) ∧ w'.cell? ⟨Bx, 2, none⟩ = some (.int .i64 (k' : Int))) hmx (by kernel_rfl) (fun _ _ h => h) ?_
            have hS : Hid (W.drew.cell? ⟨Bx, 1, none⟩ = some (.int .i64 (i' : Int)) ∧ W.drew.cell? ⟨Bx, 2, none⟩ = some (.int .i64 (k' : Int))) := hid ⟨x1, x2⟩
            have nb : Bx ≠ w.heap.size + 1 + 1 := HX.out.ne_ HW.out.ib (by decide)
            have nk : Bx ≠ w.heap.size + 1 + 1 + 1 := HX.out.ne_ HW.out.kb (by decide)
            have nf : Bx ≠ wr.heap.size + 1 := HX.out.ne_ HFW.out (by decide)
            have m1 : w.heap.size + 1 + 1 ≠ w.heap.size + 1 + 1 + 1 := by omega
            have m2 : wr.heap.size + 1 ≠ w.heap.size + 1 + 1 := by omega
            have m3 : wr.heap.size + 1 ≠ w.heap.size + 1 + 1 + 1 := by omega
            refine takeR (i := 0) (v := ?_) rfl (by kernel_rfl) (by kernel_rfl) (by kernel_rfl) (by rfl) ?_ hS.out ?_
            rotate_left
            · rintro w' ⟨sx1, sx2⟩
              go_simp <;> with_reducible rfl
            simp only [Act.put, List.setIfInBounds_toArray, List.set_cons_zero, List.set_cons_succ]
            refine takeR (i := 1) (v := ?_) rfl (by kernel_rfl) (by kernel_rfl) (by kernel_rfl) (by rfl) ?_ hS.out ?_
            rotate_left
            · rintro w' ⟨sx1, sx2⟩
              go_simp <;> with_reducible rfl
            simp only [Act.put, List.setIfInBounds_toArray, List.set_cons_zero, List.set_cons_succ]
            refine takeR (i := 2) (v := ?_) rfl (by kernel_rfl) (by kernel_rfl) (by kernel_rfl) (by rfl) ?_ hS.out ?_
            rotate_left
            · rintro w' ⟨sx1, sx2⟩
              go_simp <;> with_reducible rfl
            simp only [Act.put, List.setIfInBounds_toArray, List.set_cons_zero, List.set_cons_succ]
            refine takeR (i := 3) (v := ?_) rfl (by kernel_rfl) (by kernel_rfl) (by kernel_rfl) (by rfl) ?_ hS.out ?_
            rotate_left
            · rintro w' ⟨sx1, sx2⟩
              go_simp <;> with_reducible rfl
            simp only [Act.put, List.setIfInBounds_toArray, List.set_cons_zero, List.set_cons_succ]
            refine oneR (i := 4) rfl (by kernel_rfl) (by rfl) fun K9 hK9 => ?_
            go_simp
            refine hK9.out _ _ ⟨cell_far x1 nb, cell_far x2 nb⟩ ?_
            clear hK9 K9
            refine oneR (i := 5) rfl (by kernel_rfl) (by rfl) fun K9 hK9 => ?_
            go_simp
            refine hK9.out _ _ ⟨cell_far (cell_far x1 nb) nk, cell_far (cell_far x2 nb) nk⟩ ?_
            clear hK9 K9
            refine oneR (i := 6) rfl (by kernel_rfl) (by rfl) fun K9 hK9 => ?_
            go_simp
            refine hK9.out _ _ ⟨cell_far (cell_far (cell_far x1 nb) nk) nf, cell_far (cell_far (cell_far x2 nb) nk) nf⟩ ?_
            clear hK9 K9
            refine doneR (by kernel_rfl) ?_
            have HE7 := hid ((((HW.out.setI i').setK k').setO (a := ⟨wr.heap.size + 1, 0, none⟩) (by show w.heap.size + 1 + 1 + 1 < wr.heap.size + 1; omega) (.bool true)).next (bdr _ 1))
            have hX7 := (((HX.out.far (p := ⟨w.heap.size + 1 + 1, 0, none⟩) nb (.int .i64 (i' : Int))).far (p := ⟨w.heap.size + 1 + 1 + 1, 0, none⟩) nk (.int .i64 (k' : Int))).far (p := ⟨wr.heap.size + 1, 0, none⟩) nf (.bool true)).drewN 1
            have hF7 := (((HFW.out.far (p := ⟨w.heap.size + 1 + 1, 0, none⟩) m2 (.int .i64 (i' : Int))).far (p := ⟨w.heap.size + 1 + 1 + 1, 0, none⟩) m3 (.int .i64 (k' : Int))).set_ 0 (.bool true)).drewN 1
            have HK7 := hid ((((KeepsOthers.setCell W ⟨w.heap.size + 1 + 1, 0, none⟩ (.int .i64 (i' : Int))).trans (KeepsOthers.setCell _ ⟨w.heap.size + 1 + 1 + 1, 0, none⟩ (.int .i64 (k' : Int)))).trans (KeepsOthers.setCell _ ⟨wr.heap.size + 1, 0, none⟩ (.bool true))).trans (KeepsOthers.drew _))
            change Blk ((((W.setCell ⟨w.heap.size + 1 + 1, 0, none⟩ (.int .i64 (i' : Int))).setCell ⟨w.heap.size + 1 + 1 + 1, 0, none⟩ (.int .i64 (k' : Int))).setCell ⟨wr.heap.size + 1, 0, none⟩ (.bool true)).drew) _ _ _ at hX7 hF7
            change Hid (CoP w ((((W.setCell ⟨w.heap.size + 1 + 1, 0, none⟩ (.int .i64 (i' : Int))).setCell ⟨w.heap.size + 1 + 1 + 1, 0, none⟩ (.int .i64 (k' : Int))).setCell ⟨wr.heap.size + 1, 0, none⟩ (.bool true)).drew) s t p c i' k' sm) at HE7
            clear x0 x1 x2 x3 ce cs fs fi fk ci ck cf ff hS
            generalize (((W.setCell ⟨w.heap.size + 1 + 1, 0, none⟩ (.int .i64 (i' : Int))).setCell ⟨w.heap.size + 1 + 1 + 1, 0, none⟩ (.int .i64 (k' : Int))).setCell ⟨wr.heap.size + 1, 0, none⟩ (.bool true)).drew = w7 at HE7 hX7 hF7 HK7 ⊢
            have x3 := hX7.cell 3
            have cs := HE7.out.sb.cell 0
            have fs := HE7.out.sb.frozen 0
            simp only [List.getElem?_toArray, List.getElem?_cons_zero, List.getElem?_cons_succ] at x3 cs
            have HX7 := hid hX7
            have HF7 := hid hF7
            clear hX7 hF7 HX HFW HW
            have hq9 : q ≤ 9 := by omega
            have hsm9 : sm ≤ 900 := by omega
            gi_wp2
            rw [show (sm : Int) + (q : Int) = ((sm + q : Nat) : Int) by omega]
            have HE8 := hid (HE7.out.setS (sm + q))
            have hF8 := HF7.out.far (p := ⟨w.heap.size + 1, 0, none⟩) (by show wr.heap.size + 1 ≠ w.heap.size + 1; omega) (.int .i64 ((sm + q : Nat) : Int))
            have HK8 := hid (HK7.out.trans (KeepsOthers.setCell w7 ⟨w.heap.size + 1, 0, none⟩ (.int .i64 ((sm + q : Nat) : Int))))
            refine ⟨HK8.out.from _, rfl, (keepsFrom_below HI.out.2).trans (HK8.out.from _), ⟨(xe, (i' : Int), (k' : Int), (q : Int)), hx⟩, i', k', q, rfl, HE8.out, ?_⟩
            exact hF8
          · have hqb : (xe == e) = false := by simpa using hqq
            have HF := hid hqq
            clear hqq
            gi_wp2
            refine ⟨KeepsFrom.refl _ _, ⟨rfl, rfl, rfl⟩, ⟨fun y hy => ?_, HI.out.2⟩⟩
            rcases List.mem_append.1 hy with h | h
            · exact HI.out.1 y h
            · obtain rfl := List.mem_singleton.1 h
              exact HF.out
        case done =>
          intro D xs W hD hxs hI hM
          have HF : Hid (cstO s t p c n f = none) := hid (by
            rw [HS.out, HRE.out, cost_none (fun x hx => ?_)]
            · rfl
            · rw [← hxs] at hx
              obtain ⟨y, hy, rfl⟩ := List.mem_map.1 hx
              exact hI.1 y hy)
          have cf := (HEF.out.2.below' hI.2).cell 0
          simp only [List.getElem?_toArray, List.getElem?_cons_zero, List.getElem?_cons_succ] at cf
          have HB := hid (HR0.out.next hI.2)
          have HM1 := hid ((HM0.out.below hI.2).push HM0.out (by omega) hM hD)
          clear hI hM
          go_wp2
          refine leaves_marks HM1.out HB.out.bel.size fun w' hw' => ?_
          refine ⟨.tuple #[.int .i64 0, .bool false], by simp [results, Tryd.results64, go_sem], 0, by rw [HF.out]; rfl, fun x hx => ?_, HB.out.bel.trans hw'.bel⟩
          rw [HF.out] at hx; cases hx
        case stop =>
          rintro D cd pr W hD hSp ⟨rfl, hKF, x, i', k', q, hx, hE, hFB⟩ hMk
          have hxm := x.2
          rw [hx] at hxm
          have hco := cost_some (l := remL n f (j + 1)) hxm
          have h5 := steps_mem hxm
          have HM1 := hid ((HM0.out.keeps hKF).push HM0.out (by omega) hMk hD)
          have HE1 := hid hE
          have HCO := hid hco
          have cf := hFB.cell 0
          simp only [List.getElem?_toArray, List.getElem?_cons_zero, List.getElem?_cons_succ] at cf
          obtain ⟨i2, k2, q2, f1, f2, f3, f4, f5⟩ := h5
          dsimp only at f1 f2 f3
          have m1 : s.data.toList.length = s.size := by simp
          have m2 : t.data.toList.length = t.size := by simp
          rw [m1, m2] at f5
          have hb : i' ≤ s.size ∧ k' ≤ t.size ∧ q ≤ 9 := by omega
          clear hKF hco hE hFB hxm hx f1 f2 f3 f4 f5 m1 m2
          go_wp2
          refine Handed.intro (gn - 1) (by omega) (HJ.out _ _ _ ?_)
          refine ⟨j + 1, i', k', sm + q, { target := .collected D, args := #[] } :: ds, ?_⟩
          (repeat apply Exists.intro)
          refine ⟨⟨by omega, by omega, by omega, by omega, by omega, hid ?_, HE1, HM1⟩, rfl⟩
          rw [HS.out, HRE.out, HCO.out, Option.map_map]
          congr 1
          funext x
          show sm + (q + x) = sm + q + x
          omega
      · obtain rfl : j = n := by omega
        have hfin := cstAt_nil (s := s) (t := t) (p := p) (c := c) hi1 hk1
        rw [← remL_nil j f] at hfin
        by_cases hd : i = s.size ∧ k = t.size
        · obtain ⟨rfl, rfl⟩ := hd
          have HF : Hid (cstO s t p c j f = some sm) := hid (by rw [HS.out, hfin, if_pos ⟨rfl, rfl⟩]; rfl)
          clear HS hfin HL hJ
          go_wp2
          go_quiet (fail)
          go_wp2
          have HM1 := hid (HM.out.drewN nq)
          refine leaves_marks HM1.out HR.out.bel.size fun w' hw' => ?_
          refine ⟨.tuple #[.int .i64 (sm : Int), .bool true], by simp [results, Tryd.results64, go_sem], (sm : Int), by rw [HF.out]; rfl, fun x hx => ?_, (bdn HR.out.bel nq).trans hw'.bel⟩
          rw [HF.out] at hx; injection hx with hx; rw [hx]
        · have HF : Hid (cstO s t p c j f = none) := hid (by rw [HS.out, hfin, if_neg hd]; rfl)
          clear HS hfin HL hJ
          by_cases h1 : i = s.size
          · have d1' : (i : Int) = (s.size : Int) := by omega
            have d2' : ((k : Int) == (t.size : Int)) = false := by simp; omega
            clear hd h1
            go_wp2
            go_quiet (fail)
            go_wp2
            have HM1 := hid (HM.out.drewN nq)
            refine leaves_marks HM1.out HR.out.bel.size fun w' hw' => ?_
            refine ⟨.tuple #[.int .i64 (sm : Int), .bool false], by simp [results, Tryd.results64, go_sem], (sm : Int), by rw [HF.out]; rfl, fun x hx => ?_, (bdn HR.out.bel nq).trans hw'.bel⟩
            rw [HF.out] at hx; cases hx
          · have d1' : ((i : Int) == (s.size : Int)) = false := by simp; omega
            clear hd h1
            go_wp2
            go_quiet (fail)
            go_wp2
            have HM1 := hid (HM.out.drewN nq)
            refine leaves_marks HM1.out HR.out.bel.size fun w' hw' => ?_
            refine ⟨.tuple #[.int .i64 (sm : Int), .bool false], by simp [results, Tryd.results64, go_sem], (sm : Int), by rw [HF.out]; rfl, fun x hx => ?_, (bdn HR.out.bel nq).trans hw'.bel⟩
            rw [HF.out] at hx; cases hx
end Go.Proofs.YtmhlgnhfbickdaaDoor

