/-
  The law WindowOthers: it returns true, whatever the input. Conditions: the hours lie in memory.
-/
import Derived.Test.YtfabpkcgdblnbaaV5
namespace Go.Proofs.Ytfabpkcgdblnbaa
set_option linter.unusedVariables false
set_option linter.unusedSimpArgs false
open Go.RowKit

theorem blk_set2 {w : World} {g : Nat} {t : TypeId} {a b : Value} (h : Blk w g t #[a, b]) (x y : Value) : Blk ((w.setCell ⟨g, 0, none⟩ x).setCell ⟨g, 1, none⟩ y) g t #[x, y] := by
  have := (h.set_ 0 x).set_ 1 y
  simpa using this
theorem blk_far2 {w : World} {g g' : Nat} {t : TypeId} {cs : Array Value} (h : Blk w g t cs) (hne : g ≠ g') (x y : Value) : Blk ((w.setCell ⟨g', 0, none⟩ x).setCell ⟨g', 1, none⟩ y) g t cs :=
  (h.far (p := ⟨g', 0, none⟩) hne x).far (p := ⟨g', 1, none⟩) hne y
theorem blk_c0 {w : World} {g : Nat} {t : TypeId} {a b : Value} (h : Blk w g t #[a, b]) : w.cell? ⟨g, 0, none⟩ = some a := by rw [h.cell]; rfl
theorem blk_c1 {w : World} {g : Nat} {t : TypeId} {a b : Value} (h : Blk w g t #[a, b]) : w.cell? ⟨g, 1, none⟩ = some b := by rw [h.cell]; rfl
theorem bel_set2 {B : Nat} {w0 w : World} {g : Nat} (h : Below B w0 w) (hg : B ≤ g) (x y : Value) : Below B w0 ((w.setCell ⟨g, 0, none⟩ x).setCell ⟨g, 1, none⟩ y) :=
  (h.setCell (p := ⟨g, 0, none⟩) hg x).setCell (p := ⟨g, 1, none⟩) hg y
theorem hge_set2 {B : Nat} {w : World} {A : Option Addr} {n : Nat} {h : Nat → Int} (hh : HoursGe B w A n h) {g : Nat} (hg : g < B) (x y : Value) : HoursGe B ((w.setCell ⟨g, 0, none⟩ x).setCell ⟨g, 1, none⟩ y) A n h :=
  (hh.set_ (a := ⟨g, 0, none⟩) hg x).set_ (a := ⟨g, 1, none⟩) hg y
theorem size_set2 (w : World) (g : Nat) (x y : Value) : ((w.setCell ⟨g, 0, none⟩ x).setCell ⟨g, 1, none⟩ y).heap.size = w.heap.size := by simp [World.setCell]

theorem others_long (P : Int) (A : Option Addr) (n c : Nat) (x : Int) (w : World) (hl : (4000 : Int) < n) :
    Calls Try.prog 16 #[.agg #[.int .i64 P, .slice A n c], .int .i64 x] w fun e w' => e = .returned (.bool true) ∧ Below w.heap.size w w' := by
  go_enter Try.func16, Try.ntmps16
  go_wp2_with (first
    | (go_at_call 30; refine (lWide_any _ _ _ _ _).mono ?_; rintro e w1 ⟨rfl, hb1⟩)
    | (go_at_call 19; refine (awake_any _).mono ?_; rintro e w2 ⟨rfl, hb2⟩))
  go_ret
  exact ⟨rfl, box2 _ hb1 hb2⟩
set_option maxRecDepth 100000 in
set_option maxHeartbeats 2000000 in
theorem others_short (P : Int) (A : Option Addr) (n c : Nat) (h : Nat → Int) (x : Int) (w : World) (hh : HoursAt w A n h) (hl : ¬ (4000 : Int) < n) :
    Calls Try.prog 16 #[.agg #[.int .i64 P, .slice A n c], .int .i64 x] w fun e w' => e = .returned (.bool true) ∧ Below w.heap.size w w' := by
  have HH := hid hh
  have B2 := hid (Blk.new w 40 #[.int .i64 P, .slice A n c])
  have L0 := hid (box_bel w (.cells #[.int .i64 P, .slice A n c] 40))
  clear hh
  go_enter Try.func16, Try.ntmps16
  go_wp2_with (go_at_call 30; refine (lWide_any _ _ _ _ _).mono ?_; rintro e w1 ⟨rfl, hb1⟩; have B2a := B2.out.below' hb1; have hk0 := blk_c0 B2a; have hk1 := blk_c1 B2a; have B2b := hid B2a; clear B2a)
  have L1 := hid (btr L0.out hb1 (by simp))
  have s1 : w.heap.size < w1.heap.size := B2b.out.lt
  clear hb1
  -- Not
  refine (wNot_any _ _ _ _ _ _ (HH.out.below L1.out)).mono ?_
  rintro e w2 ⟨A2, c2, rfl, hh2, hb2⟩
  have L2 := hid (btr L1.out hb2 (by omega))
  have B2c := hid (B2b.out.below' hb2)
  have s2 := hb2.size
  have hk0 := blk_c0 B2c.out
  have hk1 := blk_c1 B2c.out
  have B5 := hid (Blk.new w2 40 #[.int .i64 (notOf P n h).per, .slice A2 (notOf P n h).len c2])
  have H2 := hid (hh2.at_.alloc (.cells #[.int .i64 (notOf P n h).per, .slice A2 (notOf P n h).len c2] 40))
  have L2a := hid (L2.out.alloc (by omega) (.cells #[.int .i64 (notOf P n h).per, .slice A2 (notOf P n h).len c2] 40))
  have B2d := hid (B2c.out.alloc (.cells #[.int .i64 (notOf P n h).per, .slice A2 (notOf P n h).len c2] 40))
  have hs2a : w.heap.size < w2.heap.size := by omega
  clear hh2 hb2
  go_wp2_with fail
  refine (rNot_any _ _ _ _ _ _ (HH.out.below L2a.out)).mono ?_
  rintro e w3 ⟨A3, c3, rfl, hh3, hb3⟩
  have L3 := hid (btr L2a.out hb3 (by simp; omega))
  have B2e := hid (B2d.out.below' hb3)
  have B5a := hid (B5.out.below' hb3)
  have H2a := hid (H2.out.below hb3)
  have s3 : w2.heap.size < w3.heap.size := B5a.out.lt
  have B7 := hid (Blk.new w3 40 #[.int .i64 (notOf P n h).per, .slice A3 (notOf P n h).len c3])
  have L3a := hid (L3.out.alloc (by omega) (.cells #[.int .i64 (notOf P n h).per, .slice A3 (notOf P n h).len c3] 40))
  have B2f := hid (B2e.out.alloc (.cells #[.int .i64 (notOf P n h).per, .slice A3 (notOf P n h).len c3] 40))
  have B5b := hid (B5a.out.alloc (.cells #[.int .i64 (notOf P n h).per, .slice A3 (notOf P n h).len c3] 40))
  have H2b := hid (H2a.out.alloc (.cells #[.int .i64 (notOf P n h).per, .slice A3 (notOf P n h).len c3] 40))
  have H3b := hid (hh3.at_.alloc (.cells #[.int .i64 (notOf P n h).per, .slice A3 (notOf P n h).len c3] 40))
  have hq0 := blk_c0 B5a.out
  have hq1 := blk_c1 B5a.out
  clear hh3 hb3 hk0 hk1
  go_wp2_with fail
  refine (equal_any _ _ _ _ _ _ _ _ _ _ _ H2b.out H3b.out).mono ?_
  rintro e w4 ⟨rfl, hb4⟩
  rw [eqWin_refl]
  have L4 := hid (btr L3a.out hb4 (by simp; omega))
  have B2g := hid (B2f.out.below' hb4)
  have B5g := hid (B5b.out.below' hb4)
  have B7g := hid (B7.out.below' hb4)
  have s4 : w3.heap.size < w4.heap.size := B7g.out.lt
  clear hb4 hq0 hq1
  have hk0 := blk_c0 B2g.out
  have hk1 := blk_c1 B2g.out
  go_wp2_with fail
  refine (wShifted_any _ _ _ _ _ _ _ (HH.out.below L4.out)).mono ?_
  rintro e w5 ⟨A5, c5, rfl, hh5, hb5⟩
  have L5 := hid (btr L4.out hb5 (by omega))
  have B2h := hid (B2g.out.below' hb5)
  have B5h := hid (B5g.out.below' hb5)
  have B7h := hid (B7g.out.below' hb5)
  have s5 := hb5.size
  clear hb5 hk0 hk1
  have hk0 := blk_c0 B2h.out
  have hk1 := blk_c1 B2h.out
  have hq0 := blk_c0 B5h.out
  have hq1 := blk_c1 B5h.out
  have hq2 := B5h.out.frozen 0
  have hq3 := B5h.out.frozen 1
  have n1 : w.heap.size ≠ w2.heap.size := by omega
  go_wp2_with fail
  refine (rShifted_any _ _ _ _ _ _ _ (HH.out.below (bel_set2 L5.out (show w.heap.size ≤ w2.heap.size by omega) _ _))).mono ?_
  rintro e w6 ⟨A6, c6, rfl, hh6, hb6⟩
  have hs5 := size_set2 w5 w2.heap.size (.int .i64 (shiftOf P n h x).per) (.slice A5 (shiftOf P n h x).len c5)
  have L6 := hid (btr (bel_set2 L5.out (show w.heap.size ≤ w2.heap.size by omega) (.int .i64 (shiftOf P n h x).per) (.slice A5 (shiftOf P n h x).len c5)) hb6 (by omega))
  have B2i := hid ((blk_far2 B2h.out (show w.heap.size ≠ w2.heap.size by omega) (.int .i64 (shiftOf P n h x).per) (.slice A5 (shiftOf P n h x).len c5)).below' hb6)
  have B5i := hid ((blk_set2 B5h.out (.int .i64 (shiftOf P n h x).per) (.slice A5 (shiftOf P n h x).len c5)).below' hb6)
  have B7i := hid ((blk_far2 B7h.out (show w3.heap.size ≠ w2.heap.size by omega) (.int .i64 (shiftOf P n h x).per) (.slice A5 (shiftOf P n h x).len c5)).below' hb6)
  have H5i := hid ((hge_set2 hh5 (show w2.heap.size < w4.heap.size by omega) (.int .i64 (shiftOf P n h x).per) (.slice A5 (shiftOf P n h x).len c5)).below hb6)
  have s6 := hb6.size
  rw [hs5] at s6 hh6
  clear hb6 hh5 hs5 hk0 hk1 hq0 hq1 hq2 hq3
  have hk0 := blk_c0 B5i.out
  have hk1 := blk_c1 B5i.out
  have hq0 := blk_c0 B7i.out
  have hq1 := blk_c1 B7i.out
  have hq2 := B7i.out.frozen 0
  have hq3 := B7i.out.frozen 1
  have n2 : w2.heap.size ≠ w3.heap.size := by omega
  go_wp2_with fail
  refine (equal_any _ _ _ _ _ _ _ _ _ _ _ (hge_set2 H5i.out (show w3.heap.size < w4.heap.size by omega) _ _).at_ (hge_set2 hh6 (show w3.heap.size < w5.heap.size by omega) _ _).at_).mono ?_
  rintro e w7 ⟨rfl, hb7⟩
  rw [eqWin_refl]
  have hs6 := size_set2 w6 w3.heap.size (.int .i64 (shiftOf P n h x).per) (.slice A6 (shiftOf P n h x).len c6)
  have L7 := hid (btr (bel_set2 L6.out (show w.heap.size ≤ w3.heap.size by omega) (.int .i64 (shiftOf P n h x).per) (.slice A6 (shiftOf P n h x).len c6)) hb7 (by omega))
  have B2g := hid ((blk_far2 B2i.out (show w.heap.size ≠ w3.heap.size by omega) (.int .i64 (shiftOf P n h x).per) (.slice A6 (shiftOf P n h x).len c6)).below' hb7)
  have B5g := hid ((blk_far2 B5i.out (show w2.heap.size ≠ w3.heap.size by omega) (.int .i64 (shiftOf P n h x).per) (.slice A6 (shiftOf P n h x).len c6)).below' hb7)
  have B7g := hid ((blk_set2 B7i.out (.int .i64 (shiftOf P n h x).per) (.slice A6 (shiftOf P n h x).len c6)).below' hb7)
  have s7 := hb7.size
  rw [hs6] at s7
  clear hb7 hh6 hs6 hk0 hk1 hq0 hq1 hq2 hq3 n1 n2 H5i L5 L6 B2h B5h B7h B2i B5i B7i
  have hk0 := blk_c0 B2g.out
  have hk1 := blk_c1 B2g.out
  have s47 : w4.heap.size ≤ w7.heap.size := by omega
  clear s5 s6 s7
  go_wp2_with fail
  refine (wPlain_any _ _ _ _ _ _ (HH.out.below L7.out)).mono ?_
  rintro e w8 ⟨A5, c5, rfl, hh5, hb5⟩
  have L5 := hid (btr L7.out hb5 (by omega))
  have B2h := hid (B2g.out.below' hb5)
  have B5h := hid (B5g.out.below' hb5)
  have B7h := hid (B7g.out.below' hb5)
  have s5 := hb5.size
  clear hb5 hk0 hk1
  have hk0 := blk_c0 B2h.out
  have hk1 := blk_c1 B2h.out
  have hq0 := blk_c0 B5h.out
  have hq1 := blk_c1 B5h.out
  have hq2 := B5h.out.frozen 0
  have hq3 := B5h.out.frozen 1
  have n1 : w.heap.size ≠ w2.heap.size := by omega
  go_wp2_with fail
  refine (rPlainE_any _ _ _ _ _ _ (HH.out.below (bel_set2 L5.out (show w.heap.size ≤ w2.heap.size by omega) _ _))).mono ?_
  rintro e w9 ⟨A6, c6, rfl, hh6, hb6⟩
  have hs5 := size_set2 w8 w2.heap.size (.int .i64 (plainOf P n h).per) (.slice A5 (plainOf P n h).len c5)
  have L6 := hid (btr (bel_set2 L5.out (show w.heap.size ≤ w2.heap.size by omega) (.int .i64 (plainOf P n h).per) (.slice A5 (plainOf P n h).len c5)) hb6 (by omega))
  have B2i := hid ((blk_far2 B2h.out (show w.heap.size ≠ w2.heap.size by omega) (.int .i64 (plainOf P n h).per) (.slice A5 (plainOf P n h).len c5)).below' hb6)
  have B5i := hid ((blk_set2 B5h.out (.int .i64 (plainOf P n h).per) (.slice A5 (plainOf P n h).len c5)).below' hb6)
  have B7i := hid ((blk_far2 B7h.out (show w3.heap.size ≠ w2.heap.size by omega) (.int .i64 (plainOf P n h).per) (.slice A5 (plainOf P n h).len c5)).below' hb6)
  have H5i := hid ((hge_set2 hh5 (show w2.heap.size < w7.heap.size by omega) (.int .i64 (plainOf P n h).per) (.slice A5 (plainOf P n h).len c5)).below hb6)
  have s6 := hb6.size
  rw [hs5] at s6 hh6
  clear hb6 hh5 hs5 hk0 hk1 hq0 hq1 hq2 hq3
  have hk0 := blk_c0 B5i.out
  have hk1 := blk_c1 B5i.out
  have hq0 := blk_c0 B7i.out
  have hq1 := blk_c1 B7i.out
  have hq2 := B7i.out.frozen 0
  have hq3 := B7i.out.frozen 1
  have n2 : w2.heap.size ≠ w3.heap.size := by omega
  go_wp2_with fail
  refine (equal_any _ _ _ _ _ _ _ _ _ _ _ (hge_set2 H5i.out (show w3.heap.size < w7.heap.size by omega) _ _).at_ (hge_set2 hh6 (show w3.heap.size < w8.heap.size by omega) _ _).at_).mono ?_
  rintro e w10 ⟨rfl, hb7⟩
  rw [eqWin_refl]
  have hs6 := size_set2 w9 w3.heap.size (.int .i64 (plainOf P n h).per) (.slice A6 (plainOf P n h).len c6)
  have L10 := hid (btr (bel_set2 L6.out (show w.heap.size ≤ w3.heap.size by omega) (.int .i64 (plainOf P n h).per) (.slice A6 (plainOf P n h).len c6)) hb7 (by omega))
  have B2g := hid ((blk_far2 B2i.out (show w.heap.size ≠ w3.heap.size by omega) (.int .i64 (plainOf P n h).per) (.slice A6 (plainOf P n h).len c6)).below' hb7)
  have B5g := hid ((blk_far2 B5i.out (show w2.heap.size ≠ w3.heap.size by omega) (.int .i64 (plainOf P n h).per) (.slice A6 (plainOf P n h).len c6)).below' hb7)
  have B7g := hid ((blk_set2 B7i.out (.int .i64 (plainOf P n h).per) (.slice A6 (plainOf P n h).len c6)).below' hb7)
  have s7 := hb7.size
  rw [hs6] at s7
  clear hb7 hh6 hs6 hk0 hk1 hq0 hq1 hq2 hq3 n1 n2 H5i L5 L6 B2h B5h B7h B2i B5i B7i
  have hk0 := blk_c0 B2g.out
  have hk1 := blk_c1 B2g.out
  go_wp2_with (go_at_call 19; refine (awake_any _).mono ?_; rintro e w11 ⟨rfl, hb11⟩)
  go_ret
  exact ⟨rfl, btr L10.out hb11 (by omega)⟩
theorem windowOthers_walk (P : Int) (A : Option Addr) (n c : Nat) (h : Nat → Int) (x : Int) (w : World) (hh : HoursAt w A n h) (hx : (Lit.int .i64 x).wf = true) :
    Calls Try.prog 16 #[.agg #[.int .i64 P, .slice A n c], .int .i64 x] w fun e w' => e = .returned (.bool true) ∧ Below w.heap.size w w' := by
  by_cases hl : (4000 : Int) < n
  · exact others_long P A n c x w hl
  · exact others_short P A n c h x w hh hl
end Go.Proofs.Ytfabpkcgdblnbaa
