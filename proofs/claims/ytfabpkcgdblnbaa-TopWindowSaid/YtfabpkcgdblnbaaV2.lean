/-
  Not and Shifted, of the program and of the reference: what each returns. Conditions: the hours lie in memory.
-/
import Derived.Test.YtfabpkcgdblnbaaV1
import Derived.Test.YtfabpkcgdblnbaaW6
namespace Go.Proofs.Ytfabpkcgdblnbaa
set_option linter.unusedVariables false
set_option linter.unusedSimpArgs false
open Go.RowKit

/-- a window that is handed back, with an error -/
structure WV where
  per : Int
  len : Nat
  hr : Nat → Int
  err : Int
def wvErr (e : Int) : WV := ⟨0, 0, fun _ => 0, e⟩
def wvOk (p : Nat) (f : Nat → Bool) : WV := ⟨p, (hsL f p).length, hsF f p, 0⟩
def WinV (w : World) (v : WV) (e : Ending) (w' : World) : Prop :=
  ∃ A c, e = .returned (.tuple #[.agg #[.int .i64 v.per, .slice A v.len c], .int .i64 v.err]) ∧ HoursGe w.heap.size w' A v.len v.hr ∧ Below w.heap.size w w'
theorem hoursGe_none (B : Nat) (w : World) : HoursGe B w none 0 fun _ => 0 := ⟨by omega, 0, 0, by omega, by omega, by omega⟩

def notOf (P : Int) (n : Nat) (h : Nat → Int) : WV := if winB P n h 3600 then wvOk P.toNat (fun j => !opn n h j) else wvErr 50
theorem not1_any (t g p : Nat) (f : Nat → Bool) (c : Nat) (x : Nat) (w : World) (hc : w.cell? ⟨t, 0, none⟩ = some (.slice (some ⟨g, 0, none⟩) p c)) (hb : BoolsAt w g 0 p f) (hx : x < p) :
    Calls Try.prog 93 #[.int .i64 (x : Int), .pointer (some ⟨t, 0, none⟩)] w fun e w' => e = .returned (.bool (!f x)) ∧ Below w.heap.size w w' := by
  have h1 := hb.2 x hx
  rw [Nat.zero_add] at h1
  go_enter Try.func93, Try.ntmps93
  go_wp2
  go_ret
  exact ⟨rfl, Below.refl _ _⟩

set_option maxHeartbeats 1000000 in
theorem wNot_any (P : Int) (A : Option Addr) (n c : Nat) (h : Nat → Int) (w : World) (hh : HoursAt w A n h) :
    Calls Try.prog 53 #[.agg #[.int .i64 P, .slice A n c]] w (WinV w (notOf P n h)) := by
  cases hw : winB P n h 3600
  · rw [show notOf P n h = wvErr 50 by simp [notOf, hw]]
    go_enter Try.func53, Try.ntmps53
    go_wp2_with (go_at_call 72; refine (newOpen_no _ _ _ _ _ _ _ ((hh.alloc _).alloc _) (by omega) hw).mono ?_; rintro e w1 ⟨rfl, hb1⟩; have hcc := bcell hb1; have hs1 : w.heap.size + 1 < w1.heap.size := (by have := hb1.size; simp at this; omega))
    refine bodyPost_ret (v := .tuple #[.agg #[.int .i64 0, .slice none 0 0], .int .i64 50]) (by simp [results, Try.results53, go_sem, hcc.1, hcc.2, hs1]) rfl ⟨none, 0, rfl, hoursGe_none _ _, ?_⟩
    exact (((box_trans _ (box_trans _ hb1)).setCell (p := ⟨w.heap.size + 1, 0, none⟩) (Nat.le_succ _) _).setCell (p := ⟨w.heap.size + 1, 1, none⟩) (Nat.le_succ _) _).alloc (by simp; omega) _
  · have hv := (winB_true.1 hw).1
    obtain ⟨p, rfl⟩ := Int.eq_ofNat_of_zero_le (show 0 ≤ P by omega)
    rw [show notOf p n h = wvOk p (fun j => !opn n h j) by simp [notOf, hw]]
    have hR0 : Blk ((w.alloc (.cells #[.int .i64 (p : Int), .slice A n c] 40)).alloc (.cells #[.int .i64 0, .slice none 0 0] 40)) (w.heap.size + 1) 40 #[.int .i64 0, .slice none 0 0] := by
      have := Blk.new (w.alloc (.cells #[.int .i64 (p : Int), .slice A n c] 40)) 40 #[.int .i64 0, .slice none 0 0]
      simpa using this
    have HR0 := hid hR0
    clear hR0
    go_enter Try.func53, Try.ntmps53
    go_wp2_with (go_at_call 72; refine (newOpen_yes _ _ _ _ _ _ _ ((hh.alloc _).alloc _) (by omega) hw).mono ?_; rintro e w1 ⟨g, rfl, hg, hblk, hb1⟩; have hs1 : w.heap.size + 1 < w1.heap.size := (by have := hb1.size; simp at this; omega))
    have hR1 := hid (HR0.out.below' hb1)
    have hBo := hid (BoolsAt.of_blk hblk)
    have hg2 := hblk.lt
    have hw1 := hid (box_trans _ (box_trans _ hb1))
    clear hblk hb1
    have hI0 : (w1.alloc (.cells #[.slice (some ⟨g, 0, none⟩) p p] 82)).cell? ⟨w1.heap.size, 0, none⟩ = some (.slice (some ⟨g, 0, none⟩) p p) ∧ BoolsAt (w1.alloc (.cells #[.slice (some ⟨g, 0, none⟩) p p] 82)) g 0 p (opn n h) :=
      ⟨World.cell?_alloc_new w1 #[.slice (some ⟨g, 0, none⟩) p p] 82 0, hBo.out.alloc _⟩
    refine (made93_any p (fun j => !opn n h j) _ _ (by omega) (fun W => W.cell? ⟨w1.heap.size, 0, none⟩ = some (.slice (some ⟨g, 0, none⟩) p p) ∧ BoolsAt W g 0 p (opn n h)) hI0
      (fun W W' hi hb => ⟨(hb.cell (p := ⟨w1.heap.size, 0, none⟩) (by simp)).trans hi.1, hi.2.belowB hb (by simp; omega)⟩)
      (fun W x hx hi => not1_any _ _ _ _ _ _ _ hi.1 hi.2 hx)).mono ?_
    rintro e w3 ⟨g3, rfl, hg3, hblk3, hb3⟩
    have hR3 := hid ((hR1.out.alloc _).below' hb3)
    have hw3 := hid (btr (hw1.out.alloc (by omega) _) hb3 (by simp; omega))
    have hs3 := hb3.size
    simp only [World.size_alloc] at hs3
    clear hb3
    have HB3 := hid (BoolsAt.of_blk hblk3)
    clear hblk3
    go_wp2_with (go_at_call 92; refine (window_any _ _ _ _ _ HB3.out (by omega)).mono ?_; rintro e w4 ⟨A4, c4, rfl, hh4, hb4⟩; have hR4 := hR3.out.below' hb4; have hd0 := hR4.cell 0; have hd1 := hR4.cell 1; have hf0 := hR4.frozen 0; have hf1 := hR4.frozen 1; clear hR4; simp only [List.getElem?_toArray, List.getElem?_cons_succ, List.getElem?_cons_zero] at hd0 hd1)
    refine bodyPost_ret (v := .tuple #[.agg #[.int .i64 (p : Int), .slice A4 (hsL (fun j => !opn n h j) p).length c4], .int .i64 0]) (by simp [results, Try.results53, go_sem, hd0, hd1, hf0, hf1]) rfl ⟨A4, c4, rfl, ?_, ?_⟩
    · exact ((hh4.set_ (a := ⟨w.heap.size + 1, 0, none⟩) (by simp; omega) _).set_ (a := ⟨w.heap.size + 1, 1, none⟩) (by simp; omega) _).mono (by omega)
    · exact ((btr hw3.out hb4 (by omega)).setCell (p := ⟨w.heap.size + 1, 0, none⟩) (Nat.le_succ _) _).setCell (p := ⟨w.heap.size + 1, 1, none⟩) (Nat.le_succ _) _

def flipTo (k : Nat) (f : Nat → Bool) (j : Nat) : Bool := if j < k then !f j else f j
theorem flip_zero (p : Nat) (f : Nat → Bool) : tabA p f = tabA p (flipTo 0 f) := tabA_congr fun j _ => by simp [flipTo]
theorem flip_step (p k : Nat) (f : Nat → Bool) : tabA p (fun i => if i = k then (!f k) else flipTo k f i) = tabA p (flipTo (k + 1) f) := tabA_congr fun j _ => by
  by_cases e : j = k
  · subst e; simp [flipTo]
  · by_cases h : j < k
    · have : j < k + 1 := by omega
      simp [flipTo, e, h, this]
    · have : ¬ j < k + 1 := by omega
      simp [flipTo, e, h, this]
theorem flip_all (p : Nat) (f : Nat → Bool) : tabA p (flipTo p f) = tabA p (fun j => !f j) := tabA_congr fun j h => by simp [flipTo, h]
theorem flip_at (k : Nat) (f : Nat → Bool) : flipTo k f k = f k := by simp [flipTo]

set_option maxHeartbeats 1000000 in
theorem rNot_any (P : Int) (A : Option Addr) (n c : Nat) (h : Nat → Int) (w : World) (hh : HoursAt w A n h) :
    Calls Try.prog 60 #[.agg #[.int .i64 P, .slice A n c]] w (WinV w (notOf P n h)) := by
  cases hw : winB P n h 3600
  · rw [show notOf P n h = wvErr 50 by simp [notOf, hw]]
    go_enter Try.func60, Try.ntmps60
    go_wp2_with (go_at_call 35; refine (rWide_any _ _ _ _ _ _ ((hh.alloc _).alloc _)).mono ?_; rintro e w1 ⟨rfl, hb1⟩; have hcc := bcell hb1; have hs1 : w.heap.size + 1 < w1.heap.size := (by have := hb1.size; simp at this; omega))
    refine bodyPost_ret (v := .tuple #[.agg #[.int .i64 0, .slice none 0 0], .int .i64 50]) (by simp [results, Try.results60, go_sem, hcc.1, hcc.2, hs1]) rfl ⟨none, 0, rfl, hoursGe_none _ _, ?_⟩
    exact (((box_trans _ (box_trans _ hb1)).setCell (p := ⟨w.heap.size + 1, 0, none⟩) (Nat.le_succ _) _).setCell (p := ⟨w.heap.size + 1, 1, none⟩) (Nat.le_succ _) _)
  · have hv := (winB_true.1 hw).1
    obtain ⟨p, rfl⟩ := Int.eq_ofNat_of_zero_le (show 0 ≤ P by omega)
    have HW := hid hw
    rw [show notOf p n h = wvOk p (fun j => !opn n h j) by simp [notOf, hw]]
    have HR0 : Hid (Blk ((w.alloc (.cells #[.int .i64 (p : Int), .slice A n c] 40)).alloc (.cells #[.int .i64 0, .slice none 0 0] 40)) (w.heap.size + 1) 40 #[.int .i64 0, .slice none 0 0]) := hid (by
      have := Blk.new (w.alloc (.cells #[.int .i64 (p : Int), .slice A n c] 40)) 40 #[.int .i64 0, .slice none 0 0]
      simpa using this)
    go_enter Try.func60, Try.ntmps60
    go_wp2_with (first
      | (go_at_call 35; refine (rWide_any _ _ _ _ _ _ ((hh.alloc _).alloc _)).mono ?_; rintro e w1 ⟨rfl, hb1⟩; have hcc := bcell hb1; have hs1 : w.heap.size + 1 < w1.heap.size := (by have := hb1.size; simp at this; omega))
      | (go_at_call 74; refine (hours_any _ _ _ _ _ 3600 _ (((hh.alloc _).alloc _).below hb1) (by omega) HW.out).mono ?_; rintro e w2 ⟨g, rfl, hg, hblk, hb2⟩))
    have HR2 := hid ((HR0.out.below' hb1).below' hb2)
    have hw2 := hid (btr (box_trans _ (box_trans _ hb1)) hb2 (by omega))
    have hs2 := hb2.size
    clear hcc hb1 hb2
    go_loopw [14] (fun i wr => ∃ k : Nat, k ≤ p ∧ i = .int .i64 k ∧ Blk wr g 4 (tabA p (flipTo k (opn n h))) ∧ Below g w2 wr) (fun i _ => p - (intOf i).toNat)
    case atStart => exact ⟨0, by omega, rfl, by rw [← flip_zero]; exact hblk, Below.refl _ _⟩
    case round =>
      obtain ⟨k, hk, rfl, hblk, hB⟩ := hrel
      by_cases hlt : k < p
      · have hc := (hblk.cell k).trans (tabA_get _ hlt)
        rw [flip_at] at hc
        have hf := hblk.frozen k
        have HB := hid hblk
        clear hblk
        go_wp2
        go_roundw
        case rel => exact ⟨k + 1, by omega, by go_num, by (have := HB.out.set_ k (.bool (!opn n h k)); rw [tabA_set, flip_step] at this; exact this), hB.setCell (Nat.le_refl _) _⟩
        case measure => simp [intOf]; omega
      · obtain rfl : k = p := by omega
        have HB := hid (BoolsAt.of_blk (by rw [flip_all] at hblk; exact hblk))
        have HR3 := hid (HR2.out.below hB (by omega))
        have hw3 := hid (hw2.out.trans (hB.mono (by omega)))
        have hs3 := hB.size
        clear hblk hB
        go_wp2_with (go_at_call 95; refine (rWindow_any _ _ _ _ _ HB.out (by omega)).mono ?_; rintro e w4 ⟨A4, c4, rfl, hh4, hb4⟩; have hR4 := HR3.out.below' hb4; have hd0 := hR4.cell 0; have hd1 := hR4.cell 1; have hf0 := hR4.frozen 0; have hf1 := hR4.frozen 1; clear hR4; simp only [List.getElem?_toArray, List.getElem?_cons_succ, List.getElem?_cons_zero] at hd0 hd1)
        refine bodyPost_ret (v := .tuple #[.agg #[.int .i64 (k : Int), .slice A4 (hsL (fun j => !opn n h j) k).length c4], .int .i64 0]) (by simp [results, Try.results60, go_sem, hd0, hd1, hf0, hf1]) rfl ⟨A4, c4, rfl, ?_, ?_⟩
        · exact ((hh4.set_ (a := ⟨w.heap.size + 1, 0, none⟩) (by simp; omega) _).set_ (a := ⟨w.heap.size + 1, 1, none⟩) (by simp; omega) _).mono (by omega)
        · exact ((btr hw3.out hb4 (by omega)).setCell (p := ⟨w.heap.size + 1, 0, none⟩) (Nat.le_succ _) _).setCell (p := ⟨w.heap.size + 1, 1, none⟩) (Nat.le_succ _) _

/-! ### Shifted -/
def shTab (p : Nat) (f : Nat → Bool) (by_ : Int) (j : Nat) : Bool := f ((j + (by_ % p).toNat) % p)
def shiftOf (P : Int) (n : Nat) (h : Nat → Int) (x : Int) : WV :=
  if winB P n h 3600 then (if btw (-1000000) x 1000000 then wvOk P.toNat (shTab P.toNat (opn n h) x) else wvErr 2) else wvErr 50
theorem sh1_any (t u g p z : Nat) (f : Nat → Bool) (c : Nat) (x : Nat) (w : World) (hp : 1 ≤ p) (hp2 : p ≤ 1000000) (hc : w.cell? ⟨t, 0, none⟩ = some (.slice (some ⟨g, 0, none⟩) p c)) (hu : w.cell? ⟨u, 0, none⟩ = some (.int .i64 (z : Int))) (hb : BoolsAt w g 0 p f) (hx : x < p) (hz : z < p) :
    Calls Try.prog 91 #[.int .i64 (x : Int), .pointer (some ⟨t, 0, none⟩), .pointer (some ⟨u, 0, none⟩)] w fun e w' => e = .returned (.bool (f ((x + z) % p))) ∧ Below w.heap.size w w' := by
  have HB := hid hb
  have hxz : ((x : Int) + (z : Int)).toNat = x + z := by omega
  clear hb
  go_enter Try.func91, Try.ntmps91
  go_wp2_with (go_at_call 73; refine (at_any _ _ _ _ _ _ HB.out hp hp2 (by omega)).mono ?_; rintro e w' ⟨rfl, rfl⟩)
  go_ret
  exact ⟨rfl, Below.refl _ _⟩
set_option maxHeartbeats 1000000 in
theorem wShifted_any (P : Int) (A : Option Addr) (n c : Nat) (h : Nat → Int) (x : Int) (w : World) (hh : HoursAt w A n h) :
    Calls Try.prog 52 #[.agg #[.int .i64 P, .slice A n c], .int .i64 x] w (WinV w (shiftOf P n h x)) := by
  cases hw : winB P n h 3600
  · rw [show shiftOf P n h x = wvErr 50 by simp [shiftOf, hw]]
    go_enter Try.func52, Try.ntmps52
    go_wp2_with (go_at_call 72; refine (newOpen_no _ _ _ _ _ _ _ ((hh.alloc _).alloc _) (by omega) hw).mono ?_; rintro e w1 ⟨rfl, hb1⟩; have hcc := bcell hb1; have hs1 : w.heap.size + 1 < w1.heap.size := (by have := hb1.size; simp at this; omega))
    refine bodyPost_ret (v := .tuple #[.agg #[.int .i64 0, .slice none 0 0], .int .i64 50]) (by simp [results, Try.results52, go_sem, hcc.1, hcc.2, hs1]) rfl ⟨none, 0, rfl, hoursGe_none _ _, ?_⟩
    exact (((box_trans _ (box_trans _ hb1)).setCell (p := ⟨w.heap.size + 1, 0, none⟩) (Nat.le_succ _) _).setCell (p := ⟨w.heap.size + 1, 1, none⟩) (Nat.le_succ _) _).alloc (by simp; omega) _
  · have hv := (winB_true.1 hw).1
    obtain ⟨p, rfl⟩ := Int.eq_ofNat_of_zero_le (show 0 ≤ P by omega)
    have HR0 : Hid (Blk ((w.alloc (.cells #[.int .i64 (p : Int), .slice A n c] 40)).alloc (.cells #[.int .i64 0, .slice none 0 0] 40)) (w.heap.size + 1) 40 #[.int .i64 0, .slice none 0 0]) := hid (by
      have := Blk.new (w.alloc (.cells #[.int .i64 (p : Int), .slice A n c] 40)) 40 #[.int .i64 0, .slice none 0 0]
      simpa using this)
    cases hx : btw (-1000000) x 1000000
    · rw [show shiftOf p n h x = wvErr 2 by simp [shiftOf, hw, hx]]
      go_enter Try.func52, Try.ntmps52
      go_wp2_with (first
        | (go_at_call 72; refine (newOpen_yes _ _ _ _ _ _ _ ((hh.alloc _).alloc _) (by omega) hw).mono ?_; rintro e w1 ⟨g, rfl, hg, hblk, hb1⟩; have hcc := bcell hb1; have hs1 : w.heap.size + 1 < w1.heap.size := (by have := hb1.size; simp at this; omega))
        | (go_at_call 68; refine (between_any _ _ _ _).mono ?_; rintro e w' ⟨rfl, rfl⟩))
      refine bodyPost_ret (v := .tuple #[.agg #[.int .i64 0, .slice none 0 0], .int .i64 2]) (by simp [results, Try.results52, go_sem, hcc.1, hcc.2, hs1]) rfl ⟨none, 0, rfl, hoursGe_none _ _, ?_⟩
      exact (((box_trans _ (box_trans _ hb1)).setCell (p := ⟨w.heap.size + 1, 0, none⟩) (Nat.le_succ _) _).setCell (p := ⟨w.heap.size + 1, 1, none⟩) (Nat.le_succ _) _).alloc (by simp; omega) _
    · rw [show shiftOf p n h x = wvOk p (shTab p (opn n h) x) by simp [shiftOf, hw, hx]]
      have hx2 := btw_iff.1 hx
      have z0 := Int.emod_nonneg x (b := (p : Int)) (by omega)
      have z1 := Int.emod_lt_of_pos x (show 0 < (p : Int) by omega)
      have hst : shTab p (opn n h) x = fun j => opn n h ((j + (x % (p : Int)).toNat) % p) := rfl
      rw [hst]
      have t1 := emod_of_tmod x p (by omega)
      have t2 : 0 ≤ x.tmod p + p := by have := Int.lt_tmod_of_pos x (show 0 < (p : Int) by omega); omega
      have t3 : (x.tmod p + p) % p = x % p := by rw [← t1, Int.tmod_eq_emod_of_nonneg t2]
      have t4 : x.tmod p % p = x % p := by rw [← t3, Int.add_emod_right]
      have t5 := Int.lt_tmod_of_pos x (show 0 < (p : Int) by omega)
      have t6 := Int.tmod_lt_of_pos x (show 0 < (p : Int) by omega)
      obtain ⟨z, hz⟩ := Int.eq_ofNat_of_zero_le z0
      rw [hz] at t1 t3 t4 z1
      rw [hz, Int.toNat_natCast]
      have hp0 : ¬ p = 0 := by omega
      clear z0 hst
      have HX := hid hx
      have HT1 := hid t1
      have HT3 := hid t3
      have HT4 := hid t4
      have HZ := hid hz
      clear t1 t3 t4 hx hz
      go_enter Try.func52, Try.ntmps52
      go_wp2_with (first
        | (go_at_call 72; refine (newOpen_yes _ _ _ _ _ _ _ ((hh.alloc _).alloc _) (by omega) hw).mono ?_; rintro e w1 ⟨g, rfl, hg, hblk, hb1⟩; have hs1 : w.heap.size + 1 < w1.heap.size := (by have := hb1.size; simp at this; omega))
        | (go_at_call 68; refine (between_any _ _ _ _).mono ?_; rintro e w' ⟨rfl, rfl⟩; simp only [HX.out]))
      have hR1 := hid (HR0.out.below' hb1)
      have hBo := hid (BoolsAt.of_blk hblk)
      have hg2 := hblk.lt
      have hw1 := hid (box_trans _ (box_trans _ hb1))
      have t1 := HT1.out
      have t3 := HT3.out
      have t4 := HT4.out
      have hz := HZ.out
      clear hblk hb1
      go_region
      go_wp2_with fail
      clear t1 t3 t4 hz
      have hW : Below w1.heap.size w1 ((w1.alloc (.cells #[.slice (some ⟨g, 0, none⟩) p p] 82)).alloc (.cells #[.int .i64 (z : Int)] 3)).drew := (((Below.refl _ _).alloc (Nat.le_refl _) _).alloc (by simp) _).drew
      have hI0 : ((w1.alloc (.cells #[.slice (some ⟨g, 0, none⟩) p p] 82)).alloc (.cells #[.int .i64 (z : Int)] 3)).drew.cell? ⟨w1.heap.size, 0, none⟩ = some (.slice (some ⟨g, 0, none⟩) p p) :=
        (World.cell?_alloc_lt (w1.alloc (.cells #[.slice (some ⟨g, 0, none⟩) p p] 82)) (.cells #[.int .i64 (z : Int)] 3) ⟨w1.heap.size, 0, none⟩ (by simp)).trans (World.cell?_alloc_new w1 #[.slice (some ⟨g, 0, none⟩) p p] 82 0)
      have hI1 : ((w1.alloc (.cells #[.slice (some ⟨g, 0, none⟩) p p] 82)).alloc (.cells #[.int .i64 (z : Int)] 3)).drew.cell? ⟨w1.heap.size + 1, 0, none⟩ = some (.int .i64 (z : Int)) := by
        simp
      refine (made91_any p (fun j => opn n h ((j + z) % p)) _ _ _ (by omega) (fun W => (W.cell? ⟨w1.heap.size, 0, none⟩ = some (.slice (some ⟨g, 0, none⟩) p p) ∧ W.cell? ⟨w1.heap.size + 1, 0, none⟩ = some (.int .i64 (z : Int))) ∧ BoolsAt W g 0 p (opn n h)) ⟨⟨hI0, hI1⟩, hBo.out.below hW⟩
        (fun W W' hi hb => ⟨⟨(hb.cell (p := ⟨w1.heap.size, 0, none⟩) (by simp; omega)).trans hi.1.1, (hb.cell (p := ⟨w1.heap.size + 1, 0, none⟩) (by simp)).trans hi.1.2⟩, hi.2.belowB hb (by simp; omega)⟩)
        (fun W x hx hi => sh1_any _ _ _ _ _ _ _ _ _ (by omega) (by omega) hi.1.1 hi.1.2 hi.2 hx (by omega))).mono ?_
      rintro e w3 ⟨g3, rfl, hg3, hblk3, hb3⟩
      have hR3 := hid ((hR1.out.below' hW).below' hb3)
      have hw3 := hid (btr (btr hw1.out hW (by omega)) hb3 (by simp; omega))
      have hs3 := hb3.size
      simp at hs3
      clear hb3 hI0 hI1
      have HB3 := hid (BoolsAt.of_blk hblk3)
      clear hblk3
      go_wp2_with (go_at_call 92; refine (window_any _ _ _ _ _ HB3.out (by omega)).mono ?_; rintro e w4 ⟨A4, c4, rfl, hh4, hb4⟩; have hR4 := hR3.out.below' hb4; have hd0 := hR4.cell 0; have hd1 := hR4.cell 1; have hf0 := hR4.frozen 0; have hf1 := hR4.frozen 1; clear hR4; simp only [List.getElem?_toArray, List.getElem?_cons_succ, List.getElem?_cons_zero] at hd0 hd1)
      refine bodyPost_ret (v := .tuple #[.agg #[.int .i64 (p : Int), .slice A4 (hsL (fun j => opn n h ((j + z) % p)) p).length c4], .int .i64 0]) (by simp [results, Try.results52, go_sem, hd0, hd1, hf0, hf1]) rfl ⟨A4, c4, rfl, ?_, ?_⟩
      · exact ((hh4.set_ (a := ⟨w.heap.size + 1, 0, none⟩) (by simp; omega) _).set_ (a := ⟨w.heap.size + 1, 1, none⟩) (by simp; omega) _).mono (by omega)
      · exact ((btr hw3.out hb4 (by omega)).setCell (p := ⟨w.heap.size + 1, 0, none⟩) (Nat.le_succ _) _).setCell (p := ⟨w.heap.size + 1, 1, none⟩) (Nat.le_succ _) _

theorem sh_mod (p k z : Nat) (x : Int) (hz : x % (p : Int) = (z : Int)) : ((k : Int) + x) % (p : Int) = (((k + z) % p : Nat) : Int) := by
  rw [Int.natCast_emod, Int.natCast_add, ← hz, Int.add_emod_emod]

set_option maxHeartbeats 1000000 in
theorem rShifted_any (P : Int) (A : Option Addr) (n c : Nat) (h : Nat → Int) (x : Int) (w : World) (hh : HoursAt w A n h) :
    Calls Try.prog 61 #[.agg #[.int .i64 P, .slice A n c], .int .i64 x] w (WinV w (shiftOf P n h x)) := by
  cases hw : winB P n h 3600
  · rw [show shiftOf P n h x = wvErr 50 by simp [shiftOf, hw]]
    go_enter Try.func61, Try.ntmps61
    go_wp2_with (go_at_call 35; refine (rWide_any _ _ _ _ _ _ ((hh.alloc _).alloc _)).mono ?_; rintro e w1 ⟨rfl, hb1⟩; have hcc := bcell hb1; have hs1 : w.heap.size + 1 < w1.heap.size := (by have := hb1.size; simp at this; omega))
    refine bodyPost_ret (v := .tuple #[.agg #[.int .i64 0, .slice none 0 0], .int .i64 50]) (by simp [results, Try.results61, go_sem, hcc.1, hcc.2, hs1]) rfl ⟨none, 0, rfl, hoursGe_none _ _, ?_⟩
    exact (((box_trans _ (box_trans _ hb1)).setCell (p := ⟨w.heap.size + 1, 0, none⟩) (Nat.le_succ _) _).setCell (p := ⟨w.heap.size + 1, 1, none⟩) (Nat.le_succ _) _)
  · have hv := (winB_true.1 hw).1
    obtain ⟨p, rfl⟩ := Int.eq_ofNat_of_zero_le (show 0 ≤ P by omega)
    have HW := hid hw
    have HR0 : Hid (Blk ((w.alloc (.cells #[.int .i64 (p : Int), .slice A n c] 40)).alloc (.cells #[.int .i64 0, .slice none 0 0] 40)) (w.heap.size + 1) 40 #[.int .i64 0, .slice none 0 0]) := hid (by
      have := Blk.new (w.alloc (.cells #[.int .i64 (p : Int), .slice A n c] 40)) 40 #[.int .i64 0, .slice none 0 0]
      simpa using this)
    by_cases hx1 : x < -1000000 ∨ 1000000 < x
    · have hx : btw (-1000000) x 1000000 = false := btw_false (by omega)
      rw [show shiftOf p n h x = wvErr 2 by simp [shiftOf, hw, hx]]
      clear hx
      by_cases hx2 : x < -1000000
      all_goals
        go_enter Try.func61, Try.ntmps61
        go_wp2_with (go_at_call 35; refine (rWide_any _ _ _ _ _ _ ((hh.alloc _).alloc _)).mono ?_; rintro e w1 ⟨rfl, hb1⟩; have hcc := bcell hb1; have hs1 : w.heap.size + 1 < w1.heap.size := (by have := hb1.size; simp at this; omega))
        refine bodyPost_ret (v := .tuple #[.agg #[.int .i64 0, .slice none 0 0], .int .i64 2]) (by simp [results, Try.results61, go_sem, hcc.1, hcc.2, hs1]) rfl ⟨none, 0, rfl, hoursGe_none _ _, ?_⟩
        exact (((box_trans _ (box_trans _ hb1)).setCell (p := ⟨w.heap.size + 1, 0, none⟩) (Nat.le_succ _) _).setCell (p := ⟨w.heap.size + 1, 1, none⟩) (Nat.le_succ _) _)
    · have hx : btw (-1000000) x 1000000 = true := btw_true (by omega) (by omega)
      rw [show shiftOf p n h x = wvOk p (shTab p (opn n h) x) by simp [shiftOf, hw, hx]]
      have hxa : -1000000 ≤ x := by omega
      have hxb : x ≤ 1000000 := by omega
      clear hx hx1
      have z0 := Int.emod_nonneg x (b := (p : Int)) (by omega)
      have z1 := Int.emod_lt_of_pos x (show 0 < (p : Int) by omega)
      have hst : shTab p (opn n h) x = fun j => opn n h ((j + (x % (p : Int)).toNat) % p) := rfl
      rw [hst]
      obtain ⟨z, hz⟩ := Int.eq_ofNat_of_zero_le z0
      rw [hz] at z1
      rw [hz, Int.toNat_natCast]
      have HZ := hid hz
      clear z0 hst hz
      go_enter Try.func61, Try.ntmps61
      have hmk := run_mkb 81 Try.underlying81 p (by omega)
      go_wp2_with (first
        | (go_at_call 35; refine (rWide_any _ _ _ _ _ _ ((hh.alloc _).alloc _)).mono ?_; rintro e w1 ⟨rfl, hb1⟩; have hcc := bcell hb1; have hs1 : w.heap.size + 1 < w1.heap.size := (by have := hb1.size; simp at this; omega))
        | (go_at_call 74; refine (hours_any _ _ _ _ _ 3600 _ (((hh.alloc _).alloc _).below hb1) (by omega) HW.out).mono ?_; rintro e w2 ⟨g, rfl, hg, hblk, hb2⟩))
      have HR2 := hid ((HR0.out.below' hb1).below' hb2)
      have hw2 := hid (btr (box_trans _ (box_trans _ hb1)) hb2 (by omega))
      have hs2 := hb2.size
      have hq0 : w2.cell? ⟨w.heap.size, 0, none⟩ = some (.int .i64 (p : Int)) := by
        rw [(bcell hb2).1 _ _ (by omega), hcc.1 _ _ (by simp; omega), World.cell?_alloc_lt _ _ ⟨w.heap.size, 0, none⟩ (by simp)]
        exact World.cell?_alloc_new w #[.int .i64 (p : Int), .slice A n c] 40 0
      have HBo := hid (BoolsAt.of_blk hblk)
      have hg2 := hblk.lt
      clear hcc hb1 hb2 hblk
      go_loopw [27] (fun i wr => ∃ k : Nat, k ≤ p ∧ i = .int .i64 k ∧ Blk wr w2.heap.size 4 (tabA p (upTo k (fun j => opn n h ((j + z) % p)))) ∧ Below w2.heap.size w2 wr) (fun i _ => p - (intOf i).toNat)
      case atStart => exact ⟨0, by omega, rfl, by rw [← upTo_zero]; exact Blk.new _ _ _, box_bel _ _⟩
      case round =>
        obtain ⟨k, hk, rfl, hblk, hB⟩ := hrel
        by_cases hlt : k < p
        · have hlm := Nat.mod_lt (k + z) (show 0 < p by omega)
          have hc0 := (hB.cell (p := ⟨w.heap.size, 0, none⟩) (show w.heap.size < w2.heap.size by omega)).trans hq0
          have hc1 := (HBo.out.belowB hB hg2).2 _ hlm
          rw [Nat.zero_add] at hc1
          have hE := sh_mod p k z x HZ.out
          have hc2 := (hblk.cell k).trans (tabA_get _ hlt)
          have hf2 := hblk.frozen k
          have HB := hid hblk
          have HS := hid (upTo_step p k (fun j => opn n h ((j + z) % p)))
          generalize hy : (k + z) % p = y at *
          have HY := hid hy
          clear hblk hy
          go_wp2_with (go_at_call 75; refine (modulo_any _ _ _ (by omega) (by omega)).mono ?_; rintro e w' ⟨rfl, rfl⟩)
          go_roundw
          case rel => exact ⟨k + 1, by omega, by go_num, by (have := HB.out.set_ k (.bool (opn n h y)); rw [tabA_set, HS.out] at this; exact this), hB.setCell (Nat.le_refl _) _⟩
          case measure => simp [intOf]; omega
        · obtain rfl : k = p := by omega
          have HB := hid (BoolsAt.of_blk (by rw [upTo_all] at hblk; exact hblk))
          have HR3 := hid (HR2.out.below hB (by omega))
          have hw3 := hid (hw2.out.trans (hB.mono (by omega)))
          have hs3 := hB.size
          clear hblk hB
          go_wp2_with (go_at_call 95; refine (rWindow_any _ _ _ _ _ HB.out (by omega)).mono ?_; rintro e w4 ⟨A4, c4, rfl, hh4, hb4⟩; have hR4 := HR3.out.below' hb4; have hd0 := hR4.cell 0; have hd1 := hR4.cell 1; have hf0 := hR4.frozen 0; have hf1 := hR4.frozen 1; clear hR4; simp only [List.getElem?_toArray, List.getElem?_cons_succ, List.getElem?_cons_zero] at hd0 hd1)
          refine bodyPost_ret (v := .tuple #[.agg #[.int .i64 (k : Int), .slice A4 (hsL (fun j => opn n h ((j + z) % k)) k).length c4], .int .i64 0]) (by simp [results, Try.results61, go_sem, hd0, hd1, hf0, hf1]) rfl ⟨A4, c4, rfl, ?_, ?_⟩
          · exact ((hh4.set_ (a := ⟨w.heap.size + 1, 0, none⟩) (by simp; omega) _).set_ (a := ⟨w.heap.size + 1, 1, none⟩) (by simp; omega) _).mono (by omega)
          · exact ((btr hw3.out hb4 (by omega)).setCell (p := ⟨w.heap.size + 1, 0, none⟩) (Nat.le_succ _) _).setCell (p := ⟨w.heap.size + 1, 1, none⟩) (Nat.le_succ _) _
end Go.Proofs.Ytfabpkcgdblnbaa
