/-
  Proves of the program: the walk. Conditions: the table lies in memory.
-/
import Derived.Test.YtmhlgnhfbickdaaDoorP36
import Derived.Test.YtmhlgnhfbickdaaDoorP15
namespace Go.Proofs.YtmhlgnhfbickdaaDoor
set_option linter.unusedVariables false
set_option linter.unusedSimpArgs false
open Go.RowKit Go.Shelf
attribute [local go_sem] Oper.semAt_some

/-- what stands while far numbers are gone over -/
structure PvR (w wr : World) (s t : ByteArray) (p c : Nat) (A : Option Addr) (n cap bp : Nat) (r : Bool) (e : Int) : Prop where
  fb : Blk wr w.heap.size 26 #[.slice A n cap]
  rb : Blk wr (w.heap.size + 1 + 1) 4 #[.bool r]
  eb : Blk wr (w.heap.size + 1 + 1 + 1) 33 #[.int .i64 e]
  pb : Blk wr bp 72 #[.string s, .string t, .int .i64 (p : Int), .int .i64 (c : Int)]
  bel : Below w.heap.size w wr
section
variable {w wr wr' : World} {s t : ByteArray} {p c : Nat} {A : Option Addr} {n cap bp : Nat} {r : Bool} {e : Int}
theorem PvR.next (h : PvR w wr s t p c A n cap bp r e) (hb : Below wr.heap.size wr wr') : PvR w wr' s t p c A n cap bp r e :=
  ⟨h.fb.below' hb, h.rb.below' hb, h.eb.below' hb, h.pb.below' hb, btr h.bel hb h.bel.size⟩
theorem PvR.keep {row : Option Nat} (h : PvR w wr s t p c A n cap bp r e) (hg : wr.grownBy wr' row) (hr : ∀ k, row = some k → w.heap.size ≤ k ∧ ∃ o : Obj, wr.heap[k]? = some o ∧ o.isCells = false) : PvR w wr' s t p c A n cap bp r e := by
  have hr' := fun k e => (hr k e).2
  exact ⟨blk_own h.fb hg hr', blk_own h.rb hg hr', blk_own h.eb hg hr', blk_own h.pb hg hr', h.bel.grown hg h.bel.size fun k e => (hr k e).1⟩
theorem PvR.setR (h : PvR w wr s t p c A n cap bp r e) (r' : Bool) : PvR w (wr.setCell ⟨w.heap.size + 1 + 1, 0, none⟩ (.bool r')) s t p c A n cap bp r' e :=
  ⟨h.fb.far (p := ⟨w.heap.size + 1 + 1, 0, none⟩) (h.fb.ne_ h.rb (by decide)) _, by simpa using h.rb.set_ 0 (.bool r'), h.eb.far (p := ⟨w.heap.size + 1 + 1, 0, none⟩) (h.eb.ne_ h.rb (by decide)) _, h.pb.far (p := ⟨w.heap.size + 1 + 1, 0, none⟩) (h.pb.ne_ h.rb (by decide)) _, h.bel.setCell (p := ⟨w.heap.size + 1 + 1, 0, none⟩) (by show w.heap.size ≤ w.heap.size + 1 + 1; omega) _⟩
theorem PvR.setE (h : PvR w wr s t p c A n cap bp r e) (e' : Int) : PvR w (wr.setCell ⟨w.heap.size + 1 + 1 + 1, 0, none⟩ (.int .i64 e')) s t p c A n cap bp r e' :=
  ⟨h.fb.far (p := ⟨w.heap.size + 1 + 1 + 1, 0, none⟩) (h.fb.ne_ h.eb (by decide)) _, h.rb.far (p := ⟨w.heap.size + 1 + 1 + 1, 0, none⟩) (h.rb.ne_ h.eb (by decide)) _, by simpa using h.eb.set_ 0 (.int .i64 e'), h.pb.far (p := ⟨w.heap.size + 1 + 1 + 1, 0, none⟩) (h.pb.ne_ h.eb (by decide)) _, h.bel.setCell (p := ⟨w.heap.size + 1 + 1 + 1, 0, none⟩) (by show w.heap.size ≤ w.heap.size + 1 + 1 + 1; omega) _⟩
end

/-- what a round that goes on keeps -/
def PvI (w0 : World) {s t : ByteArray} {p c i k : Nat} (f : Nat → Nat → Int) (pr : List (StS s.data.toList t.data.toList (p : Int) (c : Int) i k)) (W : World) : Prop := (∀ y ∈ pr, badS s.data.toList t.data.toList (p : Int) (c : Int) f i k y.val = false) ∧ Below w0.heap.size w0 W
/-- what a round that ends all leaves -/
def PvIx (w w0 : World) (s t : ByteArray) (p c : Nat) (A : Option Addr) (n cap bp i k : Nat) (f : Nat → Nat → Int) (cd : Code) (pr : List (StS s.data.toList t.data.toList (p : Int) (c : Int) i k)) (W : World) : Prop :=
  cd = .ret ∧ KeepsFrom 0 w0 W ∧ badAt s.data.toList t.data.toList (p : Int) (c : Int) f i k = true ∧ PvR w W s t p c A n cap bp false 0
theorem pvIx_own {w w0 : World} {s t : ByteArray} {p c : Nat} {A : Option Addr} {n cap bp i k : Nat} {f : Nat → Nat → Int} {B : Nat} (h0 : w0.heap.size ≤ B) (h1 : w.heap.size ≤ B) (cd : Code) : OwnFrom B (fun pr W => PvIx w w0 s t p c A n cap bp i k f cd pr W) := by
  rintro x W W' row ⟨rfl, hK, h2, h3⟩ hg hr
  exact ⟨rfl, ownFrom_keepsFrom h0 x W W' row hK hg hr, h2, h3.keep hg fun r e => ⟨Nat.le_trans h1 (hr r e).1, (hr r e).2⟩⟩

theorem prov_bad2 {S T : List UInt8} {p c : Int} {f : Nat → Nat → Int} {j k : Nat} {n : Int} (hj : j ≤ S.length) (hk : k ≤ T.length) (h1 : badAt S T p c f j k = true) : provB S T p c f n = false := by
  have h2 : obeyB S T p c f = false := by
    unfold obeyB
    rw [anyB_true.2 ⟨j, by omega, anyB_true.2 ⟨k, by omega, h1⟩⟩]
    rfl
  unfold provB
  rw [h2, Bool.false_and]
theorem prov_done2 {S T : List UInt8} {p c : Int} {f : Nat → Nat → Int} {n : Int} (h : ∀ a, a < S.length + 1 → ∀ k, k < T.length + 1 → badAt S T p c f a k = false) : provB S T p c f n = (f 0 0 == 0 && decide (n ≤ f S.length T.length)) := by
  have h2 : obeyB S T p c f = true := by
    unfold obeyB
    rw [anyB_false.2 fun a ha => anyB_false.2 fun k hk => h a ha k hk]
    rfl
  unfold provB
  rw [h2, Bool.true_and]
theorem TabAt.num2 {w : World} {b off n : Nat} {m : Nat → Nat} {f : Nat → Nat → Int} {a k : Nat} (hc : ∀ i, i < n → ∃ Ai ci, w.cell? ⟨b, off + i, none⟩ = some (.slice Ai (m i) ci) ∧ HoursAt w Ai (m i) (f i)) (ha : a < n) (hk : k < m a) :
    ∃ b2 o2 c2, w.cell? ⟨b, off + a, none⟩ = some (.slice (some ⟨b2, o2, none⟩) (m a) c2) ∧ w.cell? ⟨b2, o2 + k, none⟩ = some (.int .i64 (f a k)) := by
  obtain ⟨Ai, ci, h1, hn, b2, o2, h2, h3, h4⟩ := hc a ha
  obtain rfl := h3 (by omega)
  exact ⟨b2, o2, ci, h1, h4 k hk⟩
set_option maxRecDepth 100000 in
set_option maxHeartbeats 8000000 in
/-- Proves -/
theorem proves_any (s t : ByteArray) (A : Option Addr) (n cap : Nat) (m : Nat → Nat) (f : Nat → Nat → Int) (p c x : Int) (w : World) (hs : s.size ≤ 9223372036854775807) (ht : t.size ≤ 9223372036854775807) (hl : TabAt w A n m f) :
    Calls Tryd.prog 23 #[.string s, .string t, .slice A n cap, .agg #[.int .i64 p, .int .i64 c], .int .i64 x] w (ProvR w s t p c n m f x) := by
  have HL := hid hl
  clear hl
  refine calls_marks Tryd.func23 rfl ?_
  simp only [Tryd.ntmps23, List.size_toArray, List.length_cons, List.length_nil, Nat.reduceAdd, Nat.reduceSub, Array.replicate_succ, Array.replicate_zero, List.push_toArray, List.append_toArray, List.nil_append, List.cons_append]
  have hb4 : Below w.heap.size w ((((w.alloc (.cells #[.slice A n cap] 26)).alloc (.cells #[.int .i64 p, .int .i64 c] 24)).alloc (.cells #[.bool false] 4)).alloc (.cells #[.int .i64 0] 33)) :=
    ((((box_bel w _).trans ((box_bel _ _).mono (by simp))).trans ((box_bel _ _).mono (by simp; omega))).trans ((box_bel _ _).mono (by simp; omega)))
  have hF : Blk ((((w.alloc (.cells #[.slice A n cap] 26)).alloc (.cells #[.int .i64 p, .int .i64 c] 24)).alloc (.cells #[.bool false] 4)).alloc (.cells #[.int .i64 0] 33)) w.heap.size 26 #[.slice A n cap] := (((Blk.new _ _ _).alloc _).alloc _).alloc _
  have hC : Blk ((((w.alloc (.cells #[.slice A n cap] 26)).alloc (.cells #[.int .i64 p, .int .i64 c] 24)).alloc (.cells #[.bool false] 4)).alloc (.cells #[.int .i64 0] 33)) (w.heap.size + 1) 24 #[.int .i64 p, .int .i64 c] := by
    simpa using ((Blk.new (w.alloc (.cells #[.slice A n cap] 26)) 24 #[.int .i64 p, .int .i64 c]).alloc (.cells #[.bool false] 4)).alloc (.cells #[.int .i64 0] 33)
  have hR : Blk ((((w.alloc (.cells #[.slice A n cap] 26)).alloc (.cells #[.int .i64 p, .int .i64 c] 24)).alloc (.cells #[.bool false] 4)).alloc (.cells #[.int .i64 0] 33)) (w.heap.size + 1 + 1) 4 #[.bool false] := by
    simpa using (Blk.new ((w.alloc (.cells #[.slice A n cap] 26)).alloc (.cells #[.int .i64 p, .int .i64 c] 24)) 4 #[.bool false]).alloc (.cells #[.int .i64 0] 33)
  have hE : Blk ((((w.alloc (.cells #[.slice A n cap] 26)).alloc (.cells #[.int .i64 p, .int .i64 c] 24)).alloc (.cells #[.bool false] 4)).alloc (.cells #[.int .i64 0] 33)) (w.heap.size + 1 + 1 + 1) 33 #[.int .i64 0] := by
    simpa using Blk.new (((w.alloc (.cells #[.slice A n cap] 26)).alloc (.cells #[.int .i64 p, .int .i64 c] 24)).alloc (.cells #[.bool false] 4)) 33 #[.int .i64 0]
  have HB4 := hid hb4
  have HBX := hid (And.intro hF (And.intro hR hE))
  have c0 := hC.cell 0
  have c1 := hC.cell 1
  simp only [List.getElem?_toArray, List.getElem?_cons_zero, List.getElem?_cons_succ] at c0 c1
  clear hb4 hF hC hR hE
  go_wp2_with fail
  refine (newPair_any s t p c _ hs ht).mono ?_
  rintro e w1 ⟨s', t', u, v, rfl, h0, hb⟩
  have hb1 := btr HB4.out hb HB4.out.size
  have hF := HBX.out.1.below' hb
  have hR := HBX.out.2.1.below' hb
  have hE := HBX.out.2.2.below' hb
  have hl1 := HL.out.below hb1
  have HP := hid (Blk.new w1 72 #[.string s', .string t', .int .i64 u, .int .i64 v])
  have HB1 := hid (btr hb1 (box_bel w1 (.cells #[.string s', .string t', .int .i64 u, .int .i64 v] 72)) hb1.size)
  have HF := hid (hF.alloc (.cells #[.string s', .string t', .int .i64 u, .int .i64 v] 72))
  have HR := hid (hR.alloc (.cells #[.string s', .string t', .int .i64 u, .int .i64 v] 72))
  have HE := hid (hE.alloc (.cells #[.string s', .string t', .int .i64 u, .int .i64 v] 72))
  have HL1 := hid (hl1.below (box_bel w1 (.cells #[.string s', .string t', .int .i64 u, .int .i64 v] 72)))
  clear c0 c1 hb HBX HB4 hb1 hF hR hE hl1
  by_cases hz : codeP s t p c = 0
  · obtain ⟨rfl, rfl, rfl, rfl⟩ := h0 hz
    have h20 := codeP_zero hz
    have HZ := hid hz
    rw [hz]
    clear hz h0
    obtain ⟨s, rfl⟩ : ∃ z, z = s' := ⟨_, rfl⟩
    obtain ⟨t, rfl⟩ : ∃ z, z = t' := ⟨_, rfl⟩
    obtain ⟨h20s, h20t, hpp, hcc⟩ := h20
    obtain ⟨p, rfl⟩ : ∃ p' : Nat, u = (p' : Int) := ⟨u.toNat, by omega⟩
    obtain ⟨c, rfl⟩ : ∃ c' : Nat, v = (c' : Int) := ⟨v.toNat, by omega⟩
    obtain ⟨bp, hbp⟩ : ∃ bp, w1.heap.size = bp := ⟨_, rfl⟩
    rw [hbp] at HP
    have HV0 := hid (⟨HF.out, HR.out, HE.out, HP.out, HB1.out⟩ : PvR w _ s t p c A n cap bp false 0)
    clear HF HR HE HP HB1
    go_wp2_with fail
    generalize w1.alloc (.cells #[.string s, .string t, .int .i64 (p : Int), .int .i64 (c : Int)] 72) = w2 at HV0 HL1 ⊢
    refine (between_any _ _ _ _).mono ?_
    rintro e w' ⟨rfl, rfl⟩
    have fr := HV0.out.rb.frozen 0
    have fe := HV0.out.eb.frozen 0
    have cr := HV0.out.rb.cell 0
    have ce := HV0.out.eb.cell 0
    have cf := HV0.out.fb.cell 0
    have d0 := HV0.out.pb.cell 0
    have d1 := HV0.out.pb.cell 1
    have d2 := HV0.out.pb.cell 2
    have d3 := HV0.out.pb.cell 3
    simp only [List.getElem?_toArray, List.getElem?_cons_zero, List.getElem?_cons_succ] at cr ce cf d0 d1 d2 d3
    cases hbt : btw 0 x 1000
    · have HV := hid (provV_arg (n := n) (m := m) (f := f) (x := x) HZ.out (by rw [hbt]; rfl))
      clear hbt
      go_wp2
      clear cr ce
      have HE := hid ((HV0.out.setR false).setE 2)
      refine leaves_marks (Marks.nil _ _) HE.out.bel.size fun w' hw' => ?_
      have cr := (hw'.blk HE.out.rb).cell 0
      have ce := (hw'.blk HE.out.eb).cell 0
      simp only [List.getElem?_toArray, List.getElem?_cons_zero, List.getElem?_cons_succ] at cr ce
      exact ⟨.tuple #[.bool false, .int .i64 2], by simp [results, Tryd.results23, go_sem, cr, ce], by rw [HV.out], HE.out.bel.trans hw'.bel⟩
    · have HX := hid hbt
      clear hbt
      go_wp2_with fail
      refine (isTable_any A n cap m f s t (p : Int) (c : Int) _ (by omega) (by omega) HL1.out).mono ?_
      rintro e w3 ⟨rfl, hb3⟩
      have HV3 := hid (HV0.out.next hb3)
      have HL3 := hid (HL1.out.below hb3)
      clear HV0 HL1 hb3 fr fe cr ce cf d0 d1 d2 d3
      cases htb : tabB s.size t.size n m f
      · have HV := hid (provV_arg (n := n) (m := m) (f := f) (x := x) HZ.out (by rw [htb, Bool.and_false]))
        have fr := HV3.out.rb.frozen 0
        have fe := HV3.out.eb.frozen 0
        have cr := HV3.out.rb.cell 0
        have ce := HV3.out.eb.cell 0
        simp only [List.getElem?_toArray, List.getElem?_cons_zero, List.getElem?_cons_succ] at cr ce
        clear htb
        go_wp2
        clear cr ce
        have HE := hid ((HV3.out.setR false).setE 2)
        refine leaves_marks (Marks.nil _ _) HE.out.bel.size fun w' hw' => ?_
        have cr := (hw'.blk HE.out.rb).cell 0
        have ce := (hw'.blk HE.out.eb).cell 0
        simp only [List.getElem?_toArray, List.getElem?_cons_zero, List.getElem?_cons_succ] at cr ce
        exact ⟨.tuple #[.bool false, .int .i64 2], by simp [results, Tryd.results23, go_sem, cr, ce], by rw [HV.out], HE.out.bel.trans hw'.bel⟩
      · have HV := hid (provV_ok (n := n) (m := m) (f := f) (x := x) HZ.out HX.out htb)
        have HR := hid (tabB_true htb)
        have cf := HV3.out.fb.cell 0
        simp only [List.getElem?_toArray, List.getElem?_cons_zero, List.getElem?_cons_succ] at cf
        clear htb
        go_wp2
        clear cf
        obtain ⟨hn9, b, off, hltA, hA, hc⟩ := HL.out
        have HC := hid hc
        obtain rfl := hA (by have := HR.out.1; omega)
        clear hc hltA
        refine wp_loop_ghost_k (fun gn a wr => ∃ (i : Nat) (ds : List Deferred) (u14 u15 u16 u17 u43 u44 u45 u46 u47 u48 u49 u50 u51 u52 u53 u54 u55 u56 u57 u73 u74 : Value), (i ≤ n ∧ n - i ≤ gn ∧ Hid (∀ a, a < i → ∀ k, k < t.size + 1 → badAt s.data.toList t.data.toList (p : Int) (c : Int) f a k = false) ∧ Hid (PvR w wr s t p c (some ⟨b, off, none⟩) n cap bp false 0) ∧ Hid (Marks w.heap.size wr ds)) ∧ a = { tmps := #[.string s, .string t, .slice (some ⟨b, off, none⟩) n cap, .agg #[.int .i64 (p : Int), .int .i64 (c : Int)], .int .i64 x, undef, undef, .pointer (some ⟨w.heap.size, 0, none⟩), .pointer (some ⟨w.heap.size + 1, 0, none⟩), undef, .pointer (some ⟨w.heap.size + 1 + 1, 0, none⟩), .pointer (some ⟨w.heap.size + 1 + 1 + 1, 0, none⟩), .pointer (some ⟨bp, 0, none⟩), .int .i64 0, u14, u15, u16, u17, undef, .tuple #[.agg #[.string s, .string t, .int .i64 (p : Int), .int .i64 (c : Int)], .int .i64 0], .string s, .string t, .agg #[.int .i64 (p : Int), .int .i64 (c : Int)], .tuple #[.agg #[.string s, .string t, .int .i64 (p : Int), .int .i64 (c : Int)], .int .i64 0], .agg #[.string s, .string t, .int .i64 (p : Int), .int .i64 (c : Int)], .int .i64 0, .bool false, .int .i64 0, .bool false, undef, .bool false, .int .i64 x, .bool true, .bool false, .bool false, .agg #[.string s, .string t, .int .i64 (p : Int), .int .i64 (c : Int)], .slice (some ⟨b, off, none⟩) n cap, .bool true, .bool false, .bool false, .slice (some ⟨b, off, none⟩) n cap, .int .i64 (n : Int), .int .i64 (i : Int), u43, u44, u45, u46, u47, u48, u49, u50, u51, u52, u53, u54, u55, u56, u57, undef, undef, undef, undef, undef, undef, undef, undef, undef, undef, undef, undef, undef, undef, undef, u73, u74, undef, undef, undef, undef, undef, undef, undef, undef, undef, undef, undef, undef, undef, undef, undef, undef, undef, undef, undef], defers := ds }) n ?_ ?_
        · refine ⟨0, [], ?_⟩
          (repeat apply Exists.intro)
          refine ⟨⟨by omega, by omega, hid (by omega), HV3, hid (Marks.nil _ _)⟩, rfl⟩
        · clear HV3 HL3
          rintro gn _ wr ⟨i, ds, u14, u15, u16, u17, u43, u44, u45, u46, u47, u48, u49, u50, u51, u52, u53, u54, u55, u56, u57, u73, u74, ⟨hi, hgn, HO, HQ, HM⟩, rfl⟩
          intro J K hJ hK
          dsimp only
          by_cases hin : i < n
          · have HJ := hid hJ
            have hin2 : (i : Int) < (n : Int) := by omega
            have hmi := HR.out.2 i (by have := HR.out.1; omega)
            obtain ⟨Ai, ci, y0, hh⟩ := HC.out i hin
            obtain ⟨hmi9, b2, o2, hlt2, hA2, hc2⟩ := hh
            obtain rfl := hA2 (by omega)
            have HC2 := hid hc2
            have HMI := hid hmi
            have x0 := bcof HQ.out.bel y0
            clear hJ hc2 hlt2 hA2 hmi y0
            go_wp2
            clear x0
            refine wp_loop_ghost_k (fun gk a wr => ∃ (k : Nat) (ds : List Deferred) (u16 u17 u50 u51 u52 u53 u54 u55 u56 u57 u73 : Value), (k ≤ m i ∧ m i - k ≤ gk ∧ Hid (∀ a, a < k → badAt s.data.toList t.data.toList (p : Int) (c : Int) f i a = false) ∧ Hid (PvR w wr s t p c (some ⟨b, off, none⟩) n cap bp false 0) ∧ Hid (Marks w.heap.size wr ds)) ∧ a = { tmps := #[.string s, .string t, .slice (some ⟨b, off, none⟩) n cap, .agg #[.int .i64 (p : Int), .int .i64 (c : Int)], .int .i64 x, undef, undef, .pointer (some ⟨w.heap.size, 0, none⟩), .pointer (some ⟨w.heap.size + 1, 0, none⟩), undef, .pointer (some ⟨w.heap.size + 1 + 1, 0, none⟩), .pointer (some ⟨w.heap.size + 1 + 1 + 1, 0, none⟩), .pointer (some ⟨bp, 0, none⟩), .int .i64 0, .int .i64 (i : Int), .slice (some ⟨b2, o2, none⟩) (m i) ci, u16, u17, undef, .tuple #[.agg #[.string s, .string t, .int .i64 (p : Int), .int .i64 (c : Int)], .int .i64 0], .string s, .string t, .agg #[.int .i64 (p : Int), .int .i64 (c : Int)], .tuple #[.agg #[.string s, .string t, .int .i64 (p : Int), .int .i64 (c : Int)], .int .i64 0], .agg #[.string s, .string t, .int .i64 (p : Int), .int .i64 (c : Int)], .int .i64 0, .bool false, .int .i64 0, .bool false, undef, .bool false, .int .i64 x, .bool true, .bool false, .bool false, .agg #[.string s, .string t, .int .i64 (p : Int), .int .i64 (c : Int)], .slice (some ⟨b, off, none⟩) n cap, .bool true, .bool false, .bool false, .slice (some ⟨b, off, none⟩) n cap, .int .i64 (n : Int), .int .i64 (i : Int), .bool true, .int .i64 (i : Int), .pointer (some ⟨b, off + i, none⟩), .slice (some ⟨b2, o2, none⟩) (m i) ci, .slice (some ⟨b2, o2, none⟩) (m i) ci, .int .i64 (m i : Int), .int .i64 (k : Int), u50, u51, u52, u53, u54, u55, u56, u57, undef, undef, undef, undef, undef, undef, undef, undef, undef, undef, undef, undef, undef, undef, undef, u73, u74, undef, undef, undef, undef, undef, undef, undef, undef, undef, undef, undef, undef, undef, undef, undef, undef, undef, undef, undef], defers := ds }) (m i) ?_ ?_
            · refine ⟨0, ds, ?_⟩
              (repeat apply Exists.intro)
              refine ⟨⟨by omega, by omega, hid (by omega), HQ, HM⟩, rfl⟩
            · clear HQ HM
              rintro gk _ wr ⟨k, ds, u16, u17, u50, u51, u52, u53, u54, u55, u56, u57, u73, ⟨hk, hgk, HN, HQ, HM⟩, rfl⟩
              intro J2 K2 hJ2 hK2
              dsimp only
              by_cases hkm : k < m i
              · have HJ2 := hid hJ2
                have hkm2 : (k : Int) < (m i : Int) := by omega
                have x1 := bcof HQ.out.bel (HC2.out k hkm)
                have d0 := HQ.out.pb.cell 0
                have d1 := HQ.out.pb.cell 1
                have d2 := HQ.out.pb.cell 2
                have d3 := HQ.out.pb.cell 3
                have lp := HQ.out.pb.lt
                simp only [List.getElem?_toArray, List.getElem?_cons_zero, List.getElem?_cons_succ] at d0 d1 d2 d3
                clear hJ2
                go_wp2_with (go_at_call 63; refine (steps_any _ _ _ _ _ _ _).mono ?_; rintro e w' ⟨rfl, rfl⟩)
                have hSB : SB ((((wr.alloc (.cells #[.int .i64 (f i k)] 3)).alloc (.cells #[.string s, .string t, .int .i64 (p : Int), .int .i64 (c : Int)] 72)).alloc (.cells #[.int .i64 (i : Int)] 3)).alloc (.cells #[.int .i64 (k : Int)] 3)) s t p c i k (wr.heap.size + 1 + 1) (wr.heap.size + 1) (wr.heap.size + 1 + 1 + 1) :=
                  ⟨by simpa using (Blk.new ((wr.alloc (.cells #[.int .i64 (f i k)] 3)).alloc (.cells #[.string s, .string t, .int .i64 (p : Int), .int .i64 (c : Int)] 72)) 3 #[.int .i64 (i : Int)]).alloc (.cells #[.int .i64 (k : Int)] 3),
                   by simpa using ((Blk.new (wr.alloc (.cells #[.int .i64 (f i k)] 3)) 72 #[.string s, .string t, .int .i64 (p : Int), .int .i64 (c : Int)]).alloc (.cells #[.int .i64 (i : Int)] 3)).alloc (.cells #[.int .i64 (k : Int)] 3),
                   by simpa using Blk.new (((wr.alloc (.cells #[.int .i64 (f i k)] 3)).alloc (.cells #[.string s, .string t, .int .i64 (p : Int), .int .i64 (c : Int)] 72)).alloc (.cells #[.int .i64 (i : Int)] 3)) 3 #[.int .i64 (k : Int)]⟩
                have hXB : Blk ((((wr.alloc (.cells #[.int .i64 (f i k)] 3)).alloc (.cells #[.string s, .string t, .int .i64 (p : Int), .int .i64 (c : Int)] 72)).alloc (.cells #[.int .i64 (i : Int)] 3)).alloc (.cells #[.int .i64 (k : Int)] 3)) wr.heap.size 3 #[.int .i64 (f i k)] := (((Blk.new _ _ _).alloc _).alloc _).alloc _
                have hbb : Below wr.heap.size wr ((((wr.alloc (.cells #[.int .i64 (f i k)] 3)).alloc (.cells #[.string s, .string t, .int .i64 (p : Int), .int .i64 (c : Int)] 72)).alloc (.cells #[.int .i64 (i : Int)] 3)).alloc (.cells #[.int .i64 (k : Int)] 3)) :=
                  ((((box_bel wr _).trans ((box_bel _ _).mono (by simp))).trans ((box_bel _ _).mono (by simp; omega))).trans ((box_bel _ _).mono (by simp; omega)))
                have hsz0 : ((((wr.alloc (.cells #[.int .i64 (f i k)] 3)).alloc (.cells #[.string s, .string t, .int .i64 (p : Int), .int .i64 (c : Int)] 72)).alloc (.cells #[.int .i64 (i : Int)] 3)).alloc (.cells #[.int .i64 (k : Int)] 3)).heap.size = wr.heap.size + 4 := by simp
                generalize ((((wr.alloc (.cells #[.int .i64 (f i k)] 3)).alloc (.cells #[.string s, .string t, .int .i64 (p : Int), .int .i64 (c : Int)] 72)).alloc (.cells #[.int .i64 (i : Int)] 3)).alloc (.cells #[.int .i64 (k : Int)] 3)) = w0 at hSB hXB hbb hsz0 ⊢
                clear d0 d1 d2 d3 x1 lp
                have HQ0 := hid (HQ.out.next hbb)
                have HM0 := hid (HM.out.below hbb)
                have HXB := hid hXB
                have hw0 := HQ0.out.bel.size
                have hki : i ≤ s.size := by have := HR.out.1; omega
                have hkk : k ≤ t.size := by have := HMI.out.1; omega
                have hwr := HQ.out.bel.size
                clear HQ HM hbb hXB
                refine wp_rangeFunc (gf := 87) (lb := #[.pointer (some ⟨wr.heap.size + 1 + 1, 0, none⟩), .pointer (some ⟨wr.heap.size + 1, 0, none⟩), .pointer (some ⟨wr.heap.size + 1 + 1 + 1, 0, none⟩)]) rfl (enters_of Tryd.func87 (by kernel_rfl) rfl)
                  (steps_stops 9 (by omega) s t p c i k _ _ _ w0 (by omega) (by omega) hki hkk hSB) Kp3.trans (Kp3.put (by omega) (by omega) (by omega)) (fun _ => rfl)
                  (fun pr W => PvI w0 f pr W) (fun cd pr W => PvIx w w0 s t p c (some ⟨b, off, none⟩) n cap bp i k f cd pr W) (fun pr W W' row h hg hr => ⟨h.1, ownFrom_below (Nat.le_refl _) (Nat.le_refl _) pr W W' row h.2 hg hr⟩) (fun cd => pvIx_own (Nat.le_refl _) hw0 cd) ⟨by simp, Below.refl _ _⟩
                  (fun y a' W => ∃ Bx, (w0.heap.size ≤ Bx ∧ Blk W Bx 79 #[.int .i64 y.val.1, .int .i64 y.val.2.1, .int .i64 y.val.2.2.1, .int .i64 y.val.2.2.2]) ∧ a' = { tmps := #[.string s, .string t, .slice (some ⟨b, off, none⟩) n cap, .agg #[.int .i64 (p : Int), .int .i64 (c : Int)], .int .i64 x, undef, undef, .pointer (some ⟨w.heap.size, 0, none⟩), .pointer (some ⟨w.heap.size + 1, 0, none⟩), undef, .pointer (some ⟨w.heap.size + 1 + 1, 0, none⟩), .pointer (some ⟨w.heap.size + 1 + 1 + 1, 0, none⟩), .pointer (some ⟨bp, 0, none⟩), .int .i64 0, .int .i64 (i : Int), .slice (some ⟨b2, o2, none⟩) (m i) ci, .int .i64 (k : Int), .pointer (some ⟨wr.heap.size, 0, none⟩), .pointer (some ⟨Bx, 0, none⟩), .tuple #[.agg #[.string s, .string t, .int .i64 (p : Int), .int .i64 (c : Int)], .int .i64 0], .string s, .string t, .agg #[.int .i64 (p : Int), .int .i64 (c : Int)], .tuple #[.agg #[.string s, .string t, .int .i64 (p : Int), .int .i64 (c : Int)], .int .i64 0], .agg #[.string s, .string t, .int .i64 (p : Int), .int .i64 (c : Int)], .int .i64 0, .bool false, .int .i64 0, .bool false, undef, .bool false, .int .i64 x, .bool true, .bool false, .bool false, .agg #[.string s, .string t, .int .i64 (p : Int), .int .i64 (c : Int)], .slice (some ⟨b, off, none⟩) n cap, .bool true, .bool false, .bool false, .slice (some ⟨b, off, none⟩) n cap, .int .i64 (n : Int), .int .i64 (i : Int), .bool true, .int .i64 (i : Int), .pointer (some ⟨b, off + i, none⟩), .slice (some ⟨b2, o2, none⟩) (m i) ci, .slice (some ⟨b2, o2, none⟩) (m i) ci, .int .i64 (m i : Int), .int .i64 (k : Int), .bool true, .int .i64 (k : Int), .pointer (some ⟨b2, o2 + k, none⟩), .int .i64 (f i k), .agg #[.string s, .string t, .int .i64 (p : Int), .int .i64 (c : Int)], .int .i64 (i : Int), .int .i64 (k : Int), .func (.func 87) #[] #[.pointer (some ⟨wr.heap.size + 1 + 1, 0, none⟩), .pointer (some ⟨wr.heap.size + 1, 0, none⟩), .pointer (some ⟨wr.heap.size + 1 + 1 + 1, 0, none⟩)], encS y.val, undef, undef, undef, undef, undef, undef, undef, undef, undef, undef, undef, undef, undef, undef, u73, u74, undef, undef, undef, undef, undef, undef, undef, undef, undef, undef, undef, undef, undef, undef, undef, undef, undef, undef, undef], defers := [] }) ?hAx ?assign ?body ?done ?stop
                case hAx =>
                  rintro y a' _ W W' row ⟨Bx, ⟨h1, h2⟩, h3⟩ hg hr
                  exact ⟨Bx, ⟨h1, blk_own h2 hg fun r e => (hr r e).2⟩, h3⟩
                case assign =>
                  rintro l pr ⟨⟨xe, xi, xk, xc⟩, hx⟩ W K hi hK
                  have sz := hi.2.size
                  dsimp only [encS]
                  gi_wp2
                  refine hK _ _ ((KeepsOthers.alloc W (.cells #[.int .i64 xe, .int .i64 xi, .int .i64 xk, .int .i64 xc] 79)).from _) ⟨Below.heap_alloc W _ _ (by omega), Below.heap_alloc W _ _ (by omega), Below.heap_alloc W _ _ (by omega)⟩ ⟨hi.1, hi.2.alloc sz _⟩ ⟨W.heap.size, ⟨by omega, Blk.new _ _ _⟩, rfl⟩
                case body =>
                  rintro l pr ⟨⟨xe, xi, xk, xc⟩, hx⟩ a' W hl hI ⟨Bx, ⟨hBx, hX⟩, rfl⟩ hlen2
                  dsimp only [encS]
                  obtain ⟨i', k', q, e1, e2, e3, hq, hcase⟩ := steps_mem hx
                  dsimp only at e1 e2 e3
                  subst e1 e2 e3
                  have m1 : s.data.toList.length = s.size := by simp
                  have m2 : t.data.toList.length = t.size := by simp
                  rw [m1, m2] at hcase
                  have hin' : i' < n := by have := HR.out.1; omega
                  have hmi' := HR.out.2 i' (by have := HR.out.1; omega)
                  have hkt' : k' ≤ t.size := by omega
                  have hfb := HMI.out.2 k hkk
                  have hq9 : q ≤ 9 := by omega
                  have HW := hid (HQ0.out.next hI.2)
                  obtain ⟨b3, o3, c3, z0, z1⟩ := TabAt.num2 (a := i') (k := k') HC.out hin' (by have := hmi'.1; omega)
                  have y0 := bcof HW.out.bel z0
                  have y1 := bcof HW.out.bel z1
                  have hXW := HXB.out.below' hI.2
                  have cx := hXW.cell 0
                  have cf := HW.out.fb.cell 0
                  have x0 := hX.cell 0
                  have x1 := hX.cell 1
                  have x2 := hX.cell 2
                  have x3 := hX.cell 3
                  have cr := HW.out.rb.cell 0
                  have ce := HW.out.eb.cell 0
                  have fr := HW.out.rb.frozen 0
                  have fe := HW.out.eb.frozen 0
                  simp only [List.getElem?_toArray, List.getElem?_cons_zero, List.getElem?_cons_succ] at cx cf x0 x1 x2 x3 cr ce
                  have g1 : (i' : Int) < (n : Int) := by omega
                  have g2 : (k' : Int) < (m i' : Int) := by have := hmi'.1; omega
                  have ez : IntKind.i64.wrap (f i k + (q : Int)) = f i k + (q : Int) := IntWalk.i64_in _ (by omega)
                  have hbs : badS s.data.toList t.data.toList (p : Int) (c : Int) f i k (xe, (i' : Int), (k' : Int), (q : Int)) = decide (f i k + (q : Int) < f i' k') := by
                    unfold badS
                    simp only [Int.toNat_natCast]
                  have HBS := hid hbs
                  have HI := hid hI
                  have HX := hid hX
                  clear hbs hI hX hcase m1 m2 hmi' z0 z1 hXW hfb hq hmi9 hn9
                  by_cases hb : f i k + (q : Int) < f i' k'
                  · have HBA : Hid (badAt s.data.toList t.data.toList (p : Int) (c : Int) f i k = true) := hid (by
                      unfold badAt
                      rw [List.any_eq_true]
                      exact ⟨_, hx, HBS.out.trans (decide_eq_true hb)⟩)
                    gi_wp2
                    refine wpIn_quiet_round (by kernel_rfl) (by kernel_rfl) (by kernel_rfl) ?_
                    repeat (go_big_quiet_step (fail))
                    refine wpQuiet_nil ?_
                    rintro _ ⟨nq, rfl⟩
                    gi_wp2
                    have HE := hid (((HW.out.next (bdr W nq)).setR false).setE 0)
                    have HK := hid ((KeepsOthers.setCell (W.drewN nq) ⟨w.heap.size + 1 + 1, 0, none⟩ (.bool false)).trans (KeepsOthers.setCell _ ⟨w.heap.size + 1 + 1 + 1, 0, none⟩ (.int .i64 0)))
                    exact ⟨(keepsFrom_below (bdr W nq)).trans (HK.out.from _), rfl, ((keepsFrom_below HI.out.2).trans (keepsFrom_below (bdr W nq))).trans (HK.out.from _), HBA.out, HE.out⟩
                  · have HBF := hid (HBS.out.trans (decide_eq_false hb))
                    have hbd : decide (f i k + (q : Int) < f i' k') = false := decide_eq_false hb
                    clear hb
                    gi_wp2
                    refine wpIn_quiet_round (by kernel_rfl) (by kernel_rfl) (by kernel_rfl) ?_
                    repeat (go_big_quiet_step (fail))
                    refine wpQuiet_nil ?_
                    rintro _ ⟨nq, rfl⟩
                    gi_wp2
                    refine ⟨keepsFrom_below (bdr _ _), ⟨rfl, rfl, rfl⟩, fun y hy => ?_, bdn HI.out.2 _⟩
                    rcases List.mem_append.1 hy with h | h
                    · exact HI.out.1 y h
                    · obtain rfl := List.mem_singleton.1 h
                      exact HBF.out
                case done =>
                  intro D xs W hD hxs hI hM
                  have HAT : Hid (badAt s.data.toList t.data.toList (p : Int) (c : Int) f i k = false) := hid (by
                    unfold badAt
                    rw [List.any_eq_false]
                    intro z hz
                    rw [← hxs] at hz
                    obtain ⟨y, hy, rfl⟩ := List.mem_map.1 hz
                    rw [hI.1 y hy]
                    exact Bool.false_ne_true)
                  have HQ1 := hid (HQ0.out.next hI.2)
                  have HM1 := hid ((HM0.out.below hI.2).push HM0.out (by omega) hM hD)
                  clear hI hM
                  go_wp2
                  refine Handed.intro (gk - 1) (by omega) (HJ2.out _ _ _ ?_)
                  refine ⟨k + 1, { target := .collected D, args := #[] } :: ds, ?_⟩
                  (repeat apply Exists.intro)
                  refine ⟨⟨by omega, by omega, hid ?_, HQ1, HM1⟩, rfl⟩
                  intro a ha
                  by_cases e : a = k
                  · subst e; exact HAT.out
                  · exact HN.out a (by omega)
                case stop =>
                  rintro D cd pr W hD hSp ⟨rfl, hKF, hba, hE⟩ hMk
                  have HM1 := hid ((HM0.out.keeps hKF).push HM0.out (by omega) hMk hD)
                  have HE1 := hid hE
                  have HPB : Hid (provB s.data.toList t.data.toList (p : Int) (c : Int) f x = false) := hid (prov_bad2 (by simpa using hki) (by simpa using hkk) hba)
                  clear hKF hE hba
                  go_wp2
                  refine leaves_marks HM1.out HE1.out.bel.size fun w' hw' => ?_
                  have cr := (hw'.blk HE1.out.rb).cell 0
                  have ce := (hw'.blk HE1.out.eb).cell 0
                  simp only [List.getElem?_toArray, List.getElem?_cons_zero, List.getElem?_cons_succ] at cr ce
                  exact ⟨.tuple #[.bool false, .int .i64 0], by simp [results, Tryd.results23, go_sem, cr, ce], by rw [HV.out, HPB.out], HE1.out.bel.trans hw'.bel⟩
              · obtain rfl : k = m i := by omega
                have hkm2 : ¬ ((m i : Nat) : Int) < (m i : Int) := by omega
                clear hJ2
                go_wp2
                refine Handed.intro (gn - 1) (by omega) (HJ.out _ _ _ ?_)
                refine ⟨i + 1, ds, ?_⟩
                (repeat apply Exists.intro)
                refine ⟨⟨by omega, by omega, hid ?_, HQ, HM⟩, rfl⟩
                intro a ha
                by_cases e : a = i
                · subst e; rw [← HMI.out.1]; exact HN.out
                · exact HO.out a (by omega)
          · obtain rfl : i = n := by omega
            have hnn := HR.out.1
            have HD := hid (prov_done2 (S := s.data.toList) (T := t.data.toList) (p := (p : Int)) (c := (c : Int)) (f := f) (n := x) (fun a ha k hk => HO.out a (by simp at ha; omega) k (by simpa using hk)))
            have m1 : s.data.toList.length = s.size := by simp
            have m2 : t.data.toList.length = t.size := by simp
            rw [m1, m2] at HD
            have e0 := (HR.out.2 0 (by omega)).1
            have e1 := (HR.out.2 s.size (by omega)).1
            obtain ⟨b3, o3, c3, z0, z1⟩ := TabAt.num2 (a := 0) (k := 0) HC.out (by omega) (by omega)
            obtain ⟨b4, o4, c4, z2, z3⟩ := TabAt.num2 (a := s.size) (k := t.size) HC.out (by omega) (by omega)
            have y0 := bcof HQ.out.bel z0
            have y1 := bcof HQ.out.bel z1
            have y2 := bcof HQ.out.bel z2
            have y3 := bcof HQ.out.bel z3
            rw [Nat.add_zero] at y0 y1
            have i1 : (0 : Int) < (i : Int) := by omega
            have i2 : (0 : Int) < (m 0 : Int) := by omega
            have i3 : (s.size : Int) < (i : Int) := by omega
            have i4 : (t.size : Int) < (m s.size : Int) := by omega
            have ji : ¬ (i : Int) < (i : Int) := by omega
            have cr := HQ.out.rb.cell 0
            have ce := HQ.out.eb.cell 0
            have cf := HQ.out.fb.cell 0
            have fr := HQ.out.rb.frozen 0
            have fe := HQ.out.eb.frozen 0
            simp only [List.getElem?_toArray, List.getElem?_cons_zero, List.getElem?_cons_succ] at cr ce cf
            clear z0 z1 z2 z3 m1 m2 HO hnn e0 e1 hJ
            by_cases h00 : f 0 0 = 0
            · by_cases hfn : x ≤ f s.size t.size
              · have HV2 : Hid (provB s.data.toList t.data.toList (p : Int) (c : Int) f x = true) := hid (by rw [HD.out, h00, decide_eq_true hfn]; rfl)
                go_wp2
                clear cr ce
                have HE := hid ((HQ.out.setR true).setE 0)
                have HM1 := hid ((HM.out.setCell ⟨w.heap.size + 1 + 1, 0, none⟩ (.bool true)).setCell ⟨w.heap.size + 1 + 1 + 1, 0, none⟩ (.int .i64 0))
                refine leaves_marks HM1.out HE.out.bel.size fun w' hw' => ?_
                have cr := (hw'.blk HE.out.rb).cell 0
                have ce := (hw'.blk HE.out.eb).cell 0
                simp only [List.getElem?_toArray, List.getElem?_cons_zero, List.getElem?_cons_succ] at cr ce
                exact ⟨.tuple #[.bool true, .int .i64 0], by simp [results, Tryd.results23, go_sem, cr, ce], by rw [HV.out, HV2.out], HE.out.bel.trans hw'.bel⟩
              · have HV2 : Hid (provB s.data.toList t.data.toList (p : Int) (c : Int) f x = false) := hid (by rw [HD.out, decide_eq_false hfn, Bool.and_false])
                have hfd : decide (x ≤ f s.size t.size) = false := decide_eq_false hfn
                clear hfn
                go_wp2
                clear cr ce
                have HE := hid ((HQ.out.setR false).setE 0)
                have HM1 := hid ((HM.out.setCell ⟨w.heap.size + 1 + 1, 0, none⟩ (.bool false)).setCell ⟨w.heap.size + 1 + 1 + 1, 0, none⟩ (.int .i64 0))
                refine leaves_marks HM1.out HE.out.bel.size fun w' hw' => ?_
                have cr := (hw'.blk HE.out.rb).cell 0
                have ce := (hw'.blk HE.out.eb).cell 0
                simp only [List.getElem?_toArray, List.getElem?_cons_zero, List.getElem?_cons_succ] at cr ce
                exact ⟨.tuple #[.bool false, .int .i64 0], by simp [results, Tryd.results23, go_sem, cr, ce], by rw [HV.out, HV2.out], HE.out.bel.trans hw'.bel⟩
            · have h00b : (f 0 0 == 0) = false := by simpa using h00
              have HV2 : Hid (provB s.data.toList t.data.toList (p : Int) (c : Int) f x = false) := hid (by rw [HD.out, h00b, Bool.false_and])
              clear h00
              go_wp2
              clear cr ce
              have HE := hid ((HQ.out.setR false).setE 0)
              have HM1 := hid ((HM.out.setCell ⟨w.heap.size + 1 + 1, 0, none⟩ (.bool false)).setCell ⟨w.heap.size + 1 + 1 + 1, 0, none⟩ (.int .i64 0))
              refine leaves_marks HM1.out HE.out.bel.size fun w' hw' => ?_
              have cr := (hw'.blk HE.out.rb).cell 0
              have ce := (hw'.blk HE.out.eb).cell 0
              simp only [List.getElem?_toArray, List.getElem?_cons_zero, List.getElem?_cons_succ] at cr ce
              exact ⟨.tuple #[.bool false, .int .i64 0], by simp [results, Tryd.results23, go_sem, cr, ce], by rw [HV.out, HV2.out], HE.out.bel.trans hw'.bel⟩
  · have HV := hid (provV_bad (n := n) (m := m) (f := f) (x := x) hz)
    have hne : (codeP s t p c != 0) = true := by simpa using hz
    have fr := HR.out.frozen 0
    have fe := HE.out.frozen 0
    have cr := HR.out.cell 0
    have ce := HE.out.cell 0
    simp only [List.getElem?_toArray, List.getElem?_cons_zero, List.getElem?_cons_succ] at cr ce
    clear hz h0
    go_wp2
    have hR2 := (HR.out.set_ 0 (.bool false)).far (p := ⟨w.heap.size + 1 + 1 + 1, 0, none⟩) (by show w.heap.size + 1 + 1 ≠ w.heap.size + 1 + 1 + 1; omega) (.int .i64 (codeP s t p c))
    have hE2 := (HE.out.far (p := ⟨w.heap.size + 1 + 1, 0, none⟩) (by show w.heap.size + 1 + 1 + 1 ≠ w.heap.size + 1 + 1; omega) (.bool false)).set_ 0 (.int .i64 (codeP s t p c))
    have hB2 := (HB1.out.setCell (p := ⟨w.heap.size + 1 + 1, 0, none⟩) (by show w.heap.size ≤ w.heap.size + 1 + 1; omega) (.bool false)).setCell (p := ⟨w.heap.size + 1 + 1 + 1, 0, none⟩) (by show w.heap.size ≤ w.heap.size + 1 + 1 + 1; omega) (.int .i64 (codeP s t p c))
    refine leaves_marks (Marks.nil _ _) hB2.size fun w' hw' => ?_
    have cr := (hw'.blk hR2).cell 0
    have ce := (hw'.blk hE2).cell 0
    simp at cr ce
    exact ⟨.tuple #[.bool false, .int .i64 (codeP s t p c)], by simp [results, Tryd.results23, go_sem, cr, ce], by rw [HV.out], hB2.trans hw'.bel⟩
end Go.Proofs.YtmhlgnhfbickdaaDoor
