/-
  (open).window and the reference's window: the window of a row of bools. Conditions: the bools lie in memory.
-/
import Derived.Test.YtfabpkcgdblnbaaW2
import Derived.RangeFuncBox
namespace Go.Proofs.Ytfabpkcgdblnbaa
set_option linter.unusedVariables false
set_option linter.unusedSimpArgs false
open Go.RowKit

/-- the open hours below k -/
def hsL (f : Nat → Bool) (k : Nat) : List Nat := (List.range k).filter f
theorem hsL_len (f : Nat → Bool) (k : Nat) : (hsL f k).length ≤ k := by
  have := List.length_filter_le f (List.range k); simpa [hsL] using this
theorem hsL_yes {f : Nat → Bool} {k : Nat} (h : f k = true) : hsL f (k + 1) = hsL f k ++ [k] := by simp [hsL, List.range_succ, List.filter_append, h]
theorem hsL_no {f : Nat → Bool} {k : Nat} (h : f k = false) : hsL f (k + 1) = hsL f k := by simp [hsL, List.range_succ, List.filter_append, h]
def nums (l : List Nat) : List Value := l.map fun j : Nat => Value.int .i64 (j : Int)
theorem nums_snoc (l : List Nat) (k : Nat) : nums (l ++ [k]) = nums l ++ [.int .i64 (k : Int)] := by simp [nums]
theorem nums_get (l : List Nat) (i : Nat) (h : i < l.length) : (nums l)[i]? = some (.int .i64 ((l.getD i 0 : Nat) : Int)) := by simp [nums, h]
/-- the hours of the window, by their index -/
def hsF (f : Nat → Bool) (k : Nat) (i : Nat) : Int := (((hsL f k).getD i 0 : Nat) : Int)

theorem own_shape {w : World} {base : Nat} {e : TypeId} {size n : Nat} {v : Value} {xs : List Value} (h : w.ownsRow base e size v n xs) : ∃ A c, v = .slice A n c := by
  rcases h.2 with ⟨rfl, rfl⟩ | ⟨g, cap, cur, rfl, _⟩
  · exact ⟨none, 0, rfl⟩
  · exact ⟨_, _, rfl⟩
theorem own_hours {w : World} {base n c : Nat} {A : Option Addr} {l : List Nat} (h : w.ownsRow base 3 1 (.slice A n c) n (nums l)) (hn : n ≤ 1000000) :
    HoursGe base w A n (fun i => ((l.getD i 0 : Nat) : Int)) := by
  have hl : l.length = n := by have := h.1; simpa [nums] using this
  rcases h.2 with ⟨_, rfl⟩ | ⟨g, cap, cur, hv, hgb, hh, _, _, _, _⟩
  · exact ⟨by omega, 0, 0, by omega, by omega, by omega⟩
  · injection hv with hA
    subst hA
    refine ⟨by omega, g, 0, fun _ => ⟨hgb, ?_⟩, fun _ => rfl, fun i hi => ?_⟩
    · rcases Nat.lt_or_ge g w.heap.size with hlt | hge
      · exact hlt
      · rw [Array.getElem?_eq_none hge] at hh; cases hh
    · have := h.cells (g := g) rfl i _ (nums_get l i (by omega))
      by_cases h0 : i = 0
      · subst h0; simpa [Addr.add] using this
      · simpa [Addr.add, h0] using this
theorem own_far {w w' : World} {base e size n : Nat} {v : Value} {xs : List Value} {g : Nat} {t : TypeId} {cs : Array Value} (h : w.ownsRow base e size v n xs) (hg : w.grownBy w' v.ownBlock) (hb : Blk w g t cs) (hlt : g < base) : Blk w' g t cs := by
  refine (hg.block g hb.lt ?_).trans hb
  rcases h.2 with ⟨rfl, _⟩ | ⟨g', cap, cur, rfl, hb', _⟩
  · simp [Value.ownBlock]
  · simp [Value.ownBlock]; omega
theorem own_below {w w' w0 : World} {base B e size n : Nat} {v : Value} {xs : List Value} (h : w.ownsRow base e size v n xs) (hg : w.grownBy w' v.ownBlock) (hb : Below B w0 w) (hB : B ≤ base) (hs : B ≤ w.heap.size) : Below B w0 w' := by
  refine hb.grown hg hs fun k hk => ?_
  rcases h.2 with ⟨rfl, _⟩ | ⟨g', cap, cur, rfl, hb', _⟩
  · simp [Value.ownBlock] at hk
  · simp [Value.ownBlock] at hk; omega
theorem own_set {w : World} {base e size n : Nat} {v : Value} {xs : List Value} (h : w.ownsRow base e size v n xs) {a : Addr} (ha : a.block < base) (u : Value) : (w.setCell a u).ownsRow base e size v n xs := ownsRow_setCell_below h ha u

theorem info3 : (Try.prog.info? 3).map (fun i => (i.zero, i.size, i.bytes)) = some (some (.int .i64 0), 1, 8) := by kernel_rfl
def WinR (w : World) (p : Nat) (f : Nat → Bool) (e : Ending) (w' : World) : Prop :=
  ∃ A c, e = .returned (.agg #[.int .i64 (p : Int), .slice A (hsL f p).length c]) ∧ HoursGe w.heap.size w' A (hsL f p).length (hsF f p) ∧ Below w.heap.size w w'

set_option maxHeartbeats 1000000 in
theorem window_any (b p c : Nat) (f : Nat → Bool) (w : World) (hb : BoolsAt w b 0 p f) (hp : p ≤ 1000000) :
    Calls Try.prog 92 #[.slice (some ⟨b, 0, none⟩) p c] w (WinR w p f) := by
  obtain ⟨i0, hi, hz0, hz1, hz2⟩ := info_parts info3
  go_enter Try.func92, Try.ntmps92
  go_wp2_with fail
  have hw0 : Below w.heap.size w ((w.alloc (.cells #[.int .i64 0, .slice none 0 0] 40)).alloc (.cells #[.int .i64 (p : Int), .slice none 0 0] 40)) := ((Below.refl _ _).alloc (Nat.le_refl _) _).alloc (by simp) _
  have hbk0 : Blk ((w.alloc (.cells #[.int .i64 0, .slice none 0 0] 40)).alloc (.cells #[.int .i64 (p : Int), .slice none 0 0] 40)) w.heap.size 40 #[.int .i64 0, .slice none 0 0] := (Blk.new _ _ _).alloc _
  have hbk1 : Blk ((w.alloc (.cells #[.int .i64 0, .slice none 0 0] 40)).alloc (.cells #[.int .i64 (p : Int), .slice none 0 0] 40)) (w.heap.size + 1) 40 #[.int .i64 (p : Int), .slice none 0 0] := by
    have := Blk.new (w.alloc (.cells #[.int .i64 0, .slice none 0 0] 40)) 40 #[.int .i64 (p : Int), .slice none 0 0]
    simpa using this
  go_loopw [11] (fun z wr => ∃ k : Nat, k ≤ p ∧ z = .int .i64 k ∧ ∃ v, Blk wr (w.heap.size + 1) 40 #[.int .i64 (p : Int), v] ∧ wr.ownsRow (w.heap.size + 2) 3 1 v (hsL f k).length (nums (hsL f k)) ∧ Blk wr w.heap.size 40 #[.int .i64 0, .slice none 0 0] ∧ Below w.heap.size w wr)
    (fun z _ => p - (intOf z).toNat)
  case atStart => exact ⟨0, by omega, rfl, _, hbk1, World.ownsRow_nil _ _ _ _, hbk0, hw0⟩
  case round =>
    obtain ⟨k, hk, rfl, v, hB1, hown, hB0, hbel⟩ := hrel
    obtain ⟨A, c', rfl⟩ := own_shape hown
    have hlen := hsL_len f k
    by_cases hlt : k < p
    · have hck := (hbel.cell (p := ⟨b, 0 + k, none⟩) hb.1).trans (hb.2 k hlt)
      rw [Nat.zero_add] at hck
      cases hf : f k
      · have HN := hid (hsL_no hf)
        rw [hf] at hck
        clear hf
        go_wp2
        go_roundw
        case rel => exact ⟨k + 1, by omega, by go_num, _, hB1, by rw [HN.out]; exact hown, hB0, hbel⟩
        case measure => simp [intOf]; omega
      · have HN := hid (hsL_yes hf)
        rw [hf] at hck
        have hcl := hB1.cell 1
        have hfr := hB1.frozen 1
        simp only [List.getElem?_toArray, List.getElem?_cons_succ, List.getElem?_cons_zero] at hcl
        have hsz := hbel.size
        have hs1 : w.heap.size + 1 < wr.heap.size := hB1.lt
        have hcl2 : ∀ o, (wr.alloc o).cell? ⟨w.heap.size + 1, 1, none⟩ = some (.slice A (hsL f k).length c') := fun o => (World.cell?_alloc_lt wr o ⟨w.heap.size + 1, 1, none⟩ hs1).trans hcl
        clear hf
        go_wp2_with (at_builtin; refine wpList_append_own _ rfl _ _ 38 rfl (w.heap.size + 2) 3 i0 (.int .i64 0) 1 8 Try.underlying38 hi hz0 hz1 hz2 rfl (by decide) _ _ _ rfl (hown.alloc _) ⟨wr.heap.size, 0, none⟩ 1 1 [.int .i64 (k : Int)] rfl rfl ?c1 ?c2 ?c3 ?c4 ?c5 ?_)
        case c1 =>
          intro j u hj
          match j, hj with
          | 0, hj => simp at hj; subst hj; simp [Addr.add]
        case c2 => intro u hu; simp at hu; subst hu; rfl
        case c3 => unfold maxLen; omega
        case c4 => omega
        case c5 => simp; omega
        · intro v' w1 hown' hgrow _
          obtain ⟨A', c2, rfl⟩ := own_shape hown'
          have hB1' := own_far (hown.alloc _) hgrow (hB1.alloc _) (by omega)
          have hB0' := own_far (hown.alloc _) hgrow (hB0.alloc _) (by omega)
          have hbel' := own_below (hown.alloc _) hgrow (hbel.alloc hbel.size _) (by omega) (by simp; omega)
          have hcl3 := hB1'.cell 1
          have hfr3 := hB1'.frozen 1
          simp only [List.getElem?_toArray, List.getElem?_cons_succ, List.getElem?_cons_zero] at hcl3
          have hown2 := own_set hown' (a := ⟨w.heap.size + 1, 1, none⟩) (by simp) (.slice A' ((hsL f k).length + 1) c2)
          have hB1'' := hB1'.set_ 1 (.slice A' ((hsL f k).length + 1) c2)
          have hB0'' := hB0'.far (p := ⟨w.heap.size + 1, 1, none⟩) (by simp) (.slice A' ((hsL f k).length + 1) c2)
          have hbel'' := hbel'.setCell (p := ⟨w.heap.size + 1, 1, none⟩) (by show w.heap.size ≤ w.heap.size + 1; omega) (.slice A' ((hsL f k).length + 1) c2)
          have H := hid (And.intro hB1'' (And.intro hown2 (And.intro hB0'' hbel'')))
          clear hown' hgrow hown hB1 hB0 hB1' hB0' hB1'' hB0'' hown2 hcl hfr hcl2 hck
          go_wp2
          go_roundw
          case rel => exact ⟨k + 1, by omega, by go_num, .slice A' ((hsL f k).length + 1) c2, H.out.1, by rw [HN.out, nums_snoc, List.length_append]; exact H.out.2.1, H.out.2.2.1, H.out.2.2.2⟩
          case measure => simp [intOf]; omega
    · obtain rfl : k = p := by omega
      have hc0 := hB1.cell 0
      have hc1 := hB1.cell 1
      have hd0 := hB0.cell 0
      have hd1 := hB0.cell 1
      have hf0 := hB0.frozen 0
      have hf1 := hB0.frozen 1
      simp only [List.getElem?_toArray, List.getElem?_cons_succ, List.getElem?_cons_zero] at hc0 hc1 hd0 hd1
      have HB := hid hown
      have HBel := hid hbel
      clear hown hbel hB0 hB1
      go_wp2
      refine bodyPost_ret (v := .agg #[.int .i64 (k : Int), .slice A (hsL f k).length c']) (by simp [results, Try.results92, go_sem, hc0, hc1, hd0, hd1]) rfl ⟨A, c', rfl, ?_, ?_⟩
      · exact own_hours (own_set (own_set HB.out (a := ⟨w.heap.size, 0, none⟩) (by show w.heap.size < w.heap.size + 2; omega) _) (a := ⟨w.heap.size, 1, none⟩) (by show w.heap.size < w.heap.size + 2; omega) _) (by omega) |>.mono (by omega)
      · exact (HBel.out.setCell (p := ⟨w.heap.size, 0, none⟩) (Nat.le_refl _) _).setCell (p := ⟨w.heap.size, 1, none⟩) (Nat.le_refl _) _
set_option maxHeartbeats 1000000 in
theorem rWindow_any (b p c : Nat) (f : Nat → Bool) (w : World) (hb : BoolsAt w b 0 p f) (hp : p ≤ 1000000) :
    Calls Try.prog 95 #[.slice (some ⟨b, 0, none⟩) p c] w (WinR w p f) := by
  obtain ⟨i0, hi, hz0, hz1, hz2⟩ := info_parts info3
  go_enter Try.func95, Try.ntmps95
  go_wp2_with fail
  have hw0 : Below w.heap.size w ((w.alloc (.cells #[.int .i64 0, .slice none 0 0] 40)).alloc (.cells #[.int .i64 (p : Int), .slice none 0 0] 40)) := ((Below.refl _ _).alloc (Nat.le_refl _) _).alloc (by simp) _
  have hbk0 : Blk ((w.alloc (.cells #[.int .i64 0, .slice none 0 0] 40)).alloc (.cells #[.int .i64 (p : Int), .slice none 0 0] 40)) w.heap.size 40 #[.int .i64 0, .slice none 0 0] := (Blk.new _ _ _).alloc _
  have hbk1 : Blk ((w.alloc (.cells #[.int .i64 0, .slice none 0 0] 40)).alloc (.cells #[.int .i64 (p : Int), .slice none 0 0] 40)) (w.heap.size + 1) 40 #[.int .i64 (p : Int), .slice none 0 0] := by
    have := Blk.new (w.alloc (.cells #[.int .i64 0, .slice none 0 0] 40)) 40 #[.int .i64 (p : Int), .slice none 0 0]
    simpa using this
  go_loopw [11] (fun z wr => ∃ k : Nat, k ≤ p ∧ z = .int .i64 k ∧ ∃ v, Blk wr (w.heap.size + 1) 40 #[.int .i64 (p : Int), v] ∧ wr.ownsRow (w.heap.size + 2) 3 1 v (hsL f k).length (nums (hsL f k)) ∧ Blk wr w.heap.size 40 #[.int .i64 0, .slice none 0 0] ∧ Below w.heap.size w wr)
    (fun z _ => p - (intOf z).toNat)
  case atStart => exact ⟨0, by omega, rfl, _, hbk1, World.ownsRow_nil _ _ _ _, hbk0, hw0⟩
  case round =>
    obtain ⟨k, hk, rfl, v, hB1, hown, hB0, hbel⟩ := hrel
    obtain ⟨A, c', rfl⟩ := own_shape hown
    have hlen := hsL_len f k
    by_cases hlt : k < p
    · have hck := (hbel.cell (p := ⟨b, 0 + k, none⟩) hb.1).trans (hb.2 k hlt)
      rw [Nat.zero_add] at hck
      cases hf : f k
      · have HN := hid (hsL_no hf)
        rw [hf] at hck
        clear hf
        go_wp2
        go_roundw
        case rel => exact ⟨k + 1, by omega, by go_num, _, hB1, by rw [HN.out]; exact hown, hB0, hbel⟩
        case measure => simp [intOf]; omega
      · have HN := hid (hsL_yes hf)
        rw [hf] at hck
        have hcl := hB1.cell 1
        have hfr := hB1.frozen 1
        simp only [List.getElem?_toArray, List.getElem?_cons_succ, List.getElem?_cons_zero] at hcl
        have hsz := hbel.size
        have hs1 : w.heap.size + 1 < wr.heap.size := hB1.lt
        have hcl2 : ∀ o, (wr.alloc o).cell? ⟨w.heap.size + 1, 1, none⟩ = some (.slice A (hsL f k).length c') := fun o => (World.cell?_alloc_lt wr o ⟨w.heap.size + 1, 1, none⟩ hs1).trans hcl
        clear hf
        go_wp2_with (at_builtin; refine wpList_append_own _ rfl _ _ 38 rfl (w.heap.size + 2) 3 i0 (.int .i64 0) 1 8 Try.underlying38 hi hz0 hz1 hz2 rfl (by decide) _ _ _ rfl (hown.alloc _) ⟨wr.heap.size, 0, none⟩ 1 1 [.int .i64 (k : Int)] rfl rfl ?c1 ?c2 ?c3 ?c4 ?c5 ?_)
        case c1 =>
          intro j u hj
          match j, hj with
          | 0, hj => simp at hj; subst hj; simp [Addr.add]
        case c2 => intro u hu; simp at hu; subst hu; rfl
        case c3 => unfold maxLen; omega
        case c4 => omega
        case c5 => simp; omega
        · intro v' w1 hown' hgrow _
          obtain ⟨A', c2, rfl⟩ := own_shape hown'
          have hB1' := own_far (hown.alloc _) hgrow (hB1.alloc _) (by omega)
          have hB0' := own_far (hown.alloc _) hgrow (hB0.alloc _) (by omega)
          have hbel' := own_below (hown.alloc _) hgrow (hbel.alloc hbel.size _) (by omega) (by simp; omega)
          have hcl3 := hB1'.cell 1
          have hfr3 := hB1'.frozen 1
          simp only [List.getElem?_toArray, List.getElem?_cons_succ, List.getElem?_cons_zero] at hcl3
          have hown2 := own_set hown' (a := ⟨w.heap.size + 1, 1, none⟩) (by simp) (.slice A' ((hsL f k).length + 1) c2)
          have hB1'' := hB1'.set_ 1 (.slice A' ((hsL f k).length + 1) c2)
          have hB0'' := hB0'.far (p := ⟨w.heap.size + 1, 1, none⟩) (by simp) (.slice A' ((hsL f k).length + 1) c2)
          have hbel'' := hbel'.setCell (p := ⟨w.heap.size + 1, 1, none⟩) (by show w.heap.size ≤ w.heap.size + 1; omega) (.slice A' ((hsL f k).length + 1) c2)
          have H := hid (And.intro hB1'' (And.intro hown2 (And.intro hB0'' hbel'')))
          clear hown' hgrow hown hB1 hB0 hB1' hB0' hB1'' hB0'' hown2 hcl hfr hcl2 hck
          go_wp2
          go_roundw
          case rel => exact ⟨k + 1, by omega, by go_num, .slice A' ((hsL f k).length + 1) c2, H.out.1, by rw [HN.out, nums_snoc, List.length_append]; exact H.out.2.1, H.out.2.2.1, H.out.2.2.2⟩
          case measure => simp [intOf]; omega
    · obtain rfl : k = p := by omega
      have hc0 := hB1.cell 0
      have hc1 := hB1.cell 1
      have hd0 := hB0.cell 0
      have hd1 := hB0.cell 1
      have hf0 := hB0.frozen 0
      have hf1 := hB0.frozen 1
      simp only [List.getElem?_toArray, List.getElem?_cons_succ, List.getElem?_cons_zero] at hc0 hc1 hd0 hd1
      have HB := hid hown
      have HBel := hid hbel
      clear hown hbel hB0 hB1
      go_wp2
      refine bodyPost_ret (v := .agg #[.int .i64 (k : Int), .slice A (hsL f k).length c']) (by simp [results, Try.results95, go_sem, hc0, hc1, hd0, hd1]) rfl ⟨A, c', rfl, ?_, ?_⟩
      · exact own_hours (own_set (own_set HB.out (a := ⟨w.heap.size, 0, none⟩) (by show w.heap.size < w.heap.size + 2; omega) _) (a := ⟨w.heap.size, 1, none⟩) (by show w.heap.size < w.heap.size + 2; omega) _) (by omega) |>.mono (by omega)
      · exact (HBel.out.setCell (p := ⟨w.heap.size, 0, none⟩) (Nat.le_refl _) _).setCell (p := ⟨w.heap.size, 1, none⟩) (Nat.le_refl _) _

/-! ### made: a row that is told hour by hour by a function of the program's -/
def upTo (k : Nat) (g : Nat → Bool) (j : Nat) : Bool := decide (j < k) && g j
theorem upTo_zero (p : Nat) (g : Nat → Bool) : tabA p (fun _ => false) = tabA p (upTo 0 g) := tabA_congr fun j _ => by simp [upTo]
theorem upTo_step (p k : Nat) (g : Nat → Bool) : tabA p (fun i => if i = k then g k else upTo k g i) = tabA p (upTo (k + 1) g) := tabA_congr fun j _ => by
  by_cases e : j = k
  · subst e; simp [upTo]
  · by_cases h : j < k
    · simp [upTo, e, h]; omega
    · have : ¬ j < k + 1 := by omega
      simp [upTo, e, h, this]
theorem upTo_all (p : Nat) (g : Nat → Bool) : tabA p (upTo p g) = tabA p g := tabA_congr fun j h => by simp [upTo, h]

theorem made99_any (p : Nat) (g : Nat → Bool) (c0 c1 c2 : Value) (w : World) (hp : p ≤ 1000000) (I : World → Prop) (h0 : I w) (hI : ∀ W W', I W → Below w.heap.size W W' → I W')
    (hcall : ∀ (W : World) (x : Nat), x < p → I W → Calls Try.prog 99 #[.int .i64 (x : Int), c0, c1, c2] W fun e w' => e = .returned (.bool (g x)) ∧ Below W.heap.size W w') :
    Calls Try.prog 90 #[.int .i64 (p : Int), .func (.func 99) #[] #[c0, c1, c2]] w (RowR w p g) := by
  have hmk := run_mkb 82 Try.underlying82 p hp
  have HC := hid hcall
  have HI := hid hI
  clear hcall hI
  go_enter Try.func90, Try.ntmps90
  go_wp2_with fail
  have hb2 : Below w.heap.size w (w.alloc (.cells (tabA p fun _ => false) 4)) := box_bel _ _
  go_loopw [11] (fun i wr => ∃ k : Nat, k ≤ p ∧ i = .int .i64 k ∧ Blk wr w.heap.size 4 (tabA p (upTo k g)) ∧ Below w.heap.size w wr) (fun i _ => p - (intOf i).toNat)
  case atStart => exact ⟨0, by omega, rfl, by rw [← upTo_zero]; exact Blk.new _ _ _, hb2⟩
  case round =>
    obtain ⟨k, hk, rfl, hblk, hB⟩ := hrel
    by_cases hlt : k < p
    · have hi := hid (HI.out _ _ h0 hB)
      have HB := hid hblk
      clear hblk
      go_wp2_with (go_at_call 99; refine (HC.out _ _ hlt hi.out).mono ?_; rintro e w2 ⟨rfl, hb⟩; have hblk2 := HB.out.below' hb; have hc2 := (hblk2.cell k).trans (tabA_get _ hlt); have hf2 := hblk2.frozen k; have HB2 := hid hblk2; clear hblk2)
      go_roundw
      case rel => exact ⟨k + 1, by omega, by go_num, by (have := HB2.out.set_ k (.bool (g k)); rw [tabA_set, upTo_step] at this; exact this), (btr hB hb hB.size).setCell (Nat.le_refl _) _⟩
      case measure => simp [intOf]; omega
    · obtain rfl : k = p := by omega
      have HB := hid hblk
      clear hblk
      go_wp2
      go_ret
      exact ⟨w.heap.size, rfl, Nat.le_refl _, by rw [← upTo_all]; exact HB.out, hB⟩

theorem made93_any (p : Nat) (g : Nat → Bool) (c0 : Value) (w : World) (hp : p ≤ 1000000) (I : World → Prop) (h0 : I w) (hI : ∀ W W', I W → Below w.heap.size W W' → I W')
    (hcall : ∀ (W : World) (x : Nat), x < p → I W → Calls Try.prog 93 #[.int .i64 (x : Int), c0] W fun e w' => e = .returned (.bool (g x)) ∧ Below W.heap.size W w') :
    Calls Try.prog 90 #[.int .i64 (p : Int), .func (.func 93) #[] #[c0]] w (RowR w p g) := by
  have hmk := run_mkb 82 Try.underlying82 p hp
  have HC := hid hcall
  have HI := hid hI
  clear hcall hI
  go_enter Try.func90, Try.ntmps90
  go_wp2_with fail
  have hb2 : Below w.heap.size w (w.alloc (.cells (tabA p fun _ => false) 4)) := box_bel _ _
  go_loopw [11] (fun i wr => ∃ k : Nat, k ≤ p ∧ i = .int .i64 k ∧ Blk wr w.heap.size 4 (tabA p (upTo k g)) ∧ Below w.heap.size w wr) (fun i _ => p - (intOf i).toNat)
  case atStart => exact ⟨0, by omega, rfl, by rw [← upTo_zero]; exact Blk.new _ _ _, hb2⟩
  case round =>
    obtain ⟨k, hk, rfl, hblk, hB⟩ := hrel
    by_cases hlt : k < p
    · have hi := hid (HI.out _ _ h0 hB)
      have HB := hid hblk
      clear hblk
      go_wp2_with (go_at_call 93; refine (HC.out _ _ hlt hi.out).mono ?_; rintro e w2 ⟨rfl, hb⟩; have hblk2 := HB.out.below' hb; have hc2 := (hblk2.cell k).trans (tabA_get _ hlt); have hf2 := hblk2.frozen k; have HB2 := hid hblk2; clear hblk2)
      go_roundw
      case rel => exact ⟨k + 1, by omega, by go_num, by (have := HB2.out.set_ k (.bool (g k)); rw [tabA_set, upTo_step] at this; exact this), (btr hB hb hB.size).setCell (Nat.le_refl _) _⟩
      case measure => simp [intOf]; omega
    · obtain rfl : k = p := by omega
      have HB := hid hblk
      clear hblk
      go_wp2
      go_ret
      exact ⟨w.heap.size, rfl, Nat.le_refl _, by rw [← upTo_all]; exact HB.out, hB⟩

theorem made91_any (p : Nat) (g : Nat → Bool) (c0 c1 : Value) (w : World) (hp : p ≤ 1000000) (I : World → Prop) (h0 : I w) (hI : ∀ W W', I W → Below w.heap.size W W' → I W')
    (hcall : ∀ (W : World) (x : Nat), x < p → I W → Calls Try.prog 91 #[.int .i64 (x : Int), c0, c1] W fun e w' => e = .returned (.bool (g x)) ∧ Below W.heap.size W w') :
    Calls Try.prog 90 #[.int .i64 (p : Int), .func (.func 91) #[] #[c0, c1]] w (RowR w p g) := by
  have hmk := run_mkb 82 Try.underlying82 p hp
  have HC := hid hcall
  have HI := hid hI
  clear hcall hI
  go_enter Try.func90, Try.ntmps90
  go_wp2_with fail
  have hb2 : Below w.heap.size w (w.alloc (.cells (tabA p fun _ => false) 4)) := box_bel _ _
  go_loopw [11] (fun i wr => ∃ k : Nat, k ≤ p ∧ i = .int .i64 k ∧ Blk wr w.heap.size 4 (tabA p (upTo k g)) ∧ Below w.heap.size w wr) (fun i _ => p - (intOf i).toNat)
  case atStart => exact ⟨0, by omega, rfl, by rw [← upTo_zero]; exact Blk.new _ _ _, hb2⟩
  case round =>
    obtain ⟨k, hk, rfl, hblk, hB⟩ := hrel
    by_cases hlt : k < p
    · have hi := hid (HI.out _ _ h0 hB)
      have HB := hid hblk
      clear hblk
      go_wp2_with (go_at_call 91; refine (HC.out _ _ hlt hi.out).mono ?_; rintro e w2 ⟨rfl, hb⟩; have hblk2 := HB.out.below' hb; have hc2 := (hblk2.cell k).trans (tabA_get _ hlt); have hf2 := hblk2.frozen k; have HB2 := hid hblk2; clear hblk2)
      go_roundw
      case rel => exact ⟨k + 1, by omega, by go_num, by (have := HB2.out.set_ k (.bool (g k)); rw [tabA_set, upTo_step] at this; exact this), (btr hB hb hB.size).setCell (Nat.le_refl _) _⟩
      case measure => simp [intOf]; omega
    · obtain rfl : k = p := by omega
      have HB := hid hblk
      clear hblk
      go_wp2
      go_ret
      exact ⟨w.heap.size, rfl, Nat.le_refl _, by rw [← upTo_all]; exact HB.out, hB⟩
end Go.Proofs.Ytfabpkcgdblnbaa
