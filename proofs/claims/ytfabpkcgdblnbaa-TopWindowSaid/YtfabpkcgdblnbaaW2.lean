/-
  newOpen, hours, at: what each returns; Open of the program and of the reference. Conditions: stated at each.
-/
import Derived.Test.YtfabpkcgdblnbaaW1
import Derived.Deep.RegionHeld3
namespace Go.Proofs.Ytfabpkcgdblnbaa
set_option linter.unusedVariables false
set_option linter.unusedSimpArgs false
open Go.RowKit

/-- a new row of bools behind the call, in a block of its own -/
def NewRow (w : World) (p : Nat) (f : Nat → Bool) (g : Nat) (w' : World) : Prop := w.heap.size ≤ g ∧ Blk w' g 4 (tabA p f) ∧ Below w.heap.size w w'
def OpenR (w : World) (p : Nat) (f : Nat → Bool) (e : Ending) (w' : World) : Prop := ∃ g, e = .returned (.tuple #[.slice (some ⟨g, 0, none⟩) p p, .bool true]) ∧ NewRow w p f g w'
def RowR (w : World) (p : Nat) (f : Nat → Bool) (e : Ending) (w' : World) : Prop := ∃ g, e = .returned (.slice (some ⟨g, 0, none⟩) p p) ∧ NewRow w p f g w'

theorem opn_step {n : Nat} {h : Nat → Int} {x : Nat} (hx : h n = (x : Int)) (p : Nat) : tabA p (fun i => if i = x then true else opn n h i) = tabA p (opn (n + 1) h) :=
  tabA_congr fun j _ => by
    rw [opn_succ, hx]
    by_cases e : j = x
    · subst e; simp
    · have : ¬ (x : Int) = (j : Int) := by omega
      simp [e, this]
theorem opn_zero (h : Nat → Int) (p : Nat) : tabA p (fun _ => false) = tabA p (opn 0 h) := tabA_congr fun j _ => rfl

set_option maxHeartbeats 400000 in
theorem newOpen_yes (p : Nat) (A : Option Addr) (n c : Nat) (h : Nat → Int) (most : Int) (w : World) (hh : HoursAt w A n h) (hm : most ≤ 1000000) (hw : winB p n h most = true) :
    Calls Try.prog 72 #[.agg #[.int .i64 (p : Int), .slice A n c], .int .i64 most] w (OpenR w p (opn n h)) := by
  have hv := winB_true.1 hw
  obtain ⟨⟨p1, p2⟩, hv⟩ := hv
  have HV := hid hv
  clear hv
  have hmk := run_mkb 82 Try.underlying82 p (by omega)
  go_enter Try.func72, Try.ntmps72
  go_wp2_with (go_at_call 86; refine (isWin_any _ _ _ _ _ _ _ (hh.alloc _) hm).mono ?_; rintro e w1 ⟨rfl, hb1⟩; have hcc := (bcell hb1).1; have hs1 : w.heap.size < w1.heap.size := (by have := hb1.size; simp at this; omega))
  have hbw := box_trans _ hb1
  obtain ⟨hn, b, off, hb, hA, hc⟩ := hh.below hbw
  have hb2 : Below w1.heap.size w1 (w1.alloc (.cells (tabA p fun _ => false) 4)) := box_bel _ _
  go_loopw [19] (fun i wr => ∃ k : Nat, k ≤ n ∧ i = .int .i64 k ∧ Blk wr w1.heap.size 4 (tabA p (opn k h)) ∧ Below w1.heap.size w1 wr) (fun i _ => n - (intOf i).toNat)
  case atStart => exact ⟨0, by omega, rfl, by rw [← opn_zero]; exact Blk.new _ _ _, hb2⟩
  case round =>
    obtain ⟨k, hk, rfl, hblk, hB⟩ := hrel
    by_cases hlt : k < n
    · obtain rfl := hA (by omega)
      obtain ⟨x, hx⟩ := Int.eq_ofNat_of_zero_le (HV.out k hlt).1.1
      have hxp : x < p := by have := (HV.out k hlt).1.2; omega
      have hc1 := (hB.cell (p := ⟨b, off + k, none⟩) (hb (by omega))).trans (hc k hlt)
      rw [hx] at hc1
      have hc2 := (hblk.cell x).trans (tabA_get _ hxp)
      have hf2 := hblk.frozen x
      have HX := hid hx
      have HB := hid hblk
      clear hc hx hblk
      go_wp2
      go_roundw
      case rel => exact ⟨k + 1, by omega, by go_num, by (have := HB.out.set_ x (.bool true); rw [tabA_set, opn_step HX.out] at this; exact this), hB.setCell (Nat.le_refl _) _⟩
      case measure => simp [intOf]; omega
    · obtain rfl : k = n := by omega
      have HB := hid hblk
      clear hblk
      go_wp2
      go_ret2
      exact ⟨w1.heap.size, rfl, by omega, HB.out, hbw.trans (hB.mono hbw.size)⟩
theorem newOpen_no (P : Int) (A : Option Addr) (n c : Nat) (h : Nat → Int) (most : Int) (w : World) (hh : HoursAt w A n h) (hm : most ≤ 1000000) (hw : winB P n h most = false) :
    Calls Try.prog 72 #[.agg #[.int .i64 P, .slice A n c], .int .i64 most] w fun e w' => e = .returned (.tuple #[.slice none 0 0, .bool false]) ∧ Below w.heap.size w w' := by
  go_enter Try.func72, Try.ntmps72
  go_wp2_with (go_at_call 86; refine (isWin_any _ _ _ _ _ _ _ (hh.alloc _) hm).mono ?_; rintro e w1 ⟨rfl, hb1⟩)
  go_ret2
  exact ⟨rfl, box_trans _ hb1⟩

set_option maxHeartbeats 400000 in
theorem hours_any (p : Nat) (A : Option Addr) (n c : Nat) (h : Nat → Int) (most : Int) (w : World) (hh : HoursAt w A n h) (hm : most ≤ 1000000) (hw : winB p n h most = true) :
    Calls Try.prog 74 #[.agg #[.int .i64 (p : Int), .slice A n c]] w (RowR w p (opn n h)) := by
  have hv := winB_true.1 hw
  obtain ⟨⟨p1, p2⟩, hv⟩ := hv
  have HV := hid hv
  clear hv hw
  have hmk := run_mkb 81 Try.underlying81 p (by omega)
  go_enter Try.func74, Try.ntmps74
  go_wp2_with fail
  have hbw : Below w.heap.size w (w.alloc (.cells #[.int .i64 (p : Int), .slice A n c] 40)) := box_bel _ _
  obtain ⟨hn, b, off, hb, hA, hc⟩ := hh.alloc (.cells #[.int .i64 (p : Int), .slice A n c] 40)
  have hb2 : Below (w.alloc (.cells #[.int .i64 (p : Int), .slice A n c] 40)).heap.size (w.alloc (.cells #[.int .i64 (p : Int), .slice A n c] 40)) ((w.alloc (.cells #[.int .i64 (p : Int), .slice A n c] 40)).alloc (.cells (tabA p fun _ => false) 4)) := box_bel _ _
  have hbk := Blk.new (w.alloc (.cells #[.int .i64 (p : Int), .slice A n c] 40)) 4 (tabA p fun _ => false)
  have HBK := hid hbk
  have hs : (w.alloc (.cells #[.int .i64 (p : Int), .slice A n c] 40)).heap.size = w.heap.size + 1 := by simp
  clear hbk
  generalize w.alloc (.cells #[.int .i64 (p : Int), .slice A n c] 40) = w1 at *
  have HS := hid hs
  clear hs
  go_loopw [12] (fun i wr => ∃ k : Nat, k ≤ n ∧ i = .int .i64 k ∧ Blk wr (w.heap.size + 1) 4 (tabA p (opn k h)) ∧ Below w1.heap.size w1 wr) (fun i _ => n - (intOf i).toNat)
  case atStart => exact ⟨0, by omega, rfl, by rw [← opn_zero, ← HS.out]; exact HBK.out, hb2⟩
  case round =>
    obtain ⟨k, hk, rfl, hblk, hB⟩ := hrel
    by_cases hlt : k < n
    · obtain rfl := hA (by omega)
      obtain ⟨x, hx⟩ := Int.eq_ofNat_of_zero_le (HV.out k hlt).1.1
      have hxp : x < p := by have := (HV.out k hlt).1.2; omega
      have hc1 := (hB.cell (p := ⟨b, off + k, none⟩) (hb (by omega))).trans (hc k hlt)
      rw [hx] at hc1
      have hc2 := (hblk.cell x).trans (tabA_get _ hxp)
      have hf2 := hblk.frozen x
      have HX := hid hx
      have HB := hid hblk
      clear hc hx hblk
      go_wp2
      go_roundw
      case rel => exact ⟨k + 1, by omega, by go_num, by (have := HB.out.set_ x (.bool true); rw [tabA_set, opn_step HX.out] at this; exact this), hB.setCell (by have := HS.out; simp; omega) _⟩
      case measure => simp [intOf]; omega
    · obtain rfl : k = n := by omega
      have HB := hid hblk
      clear hblk
      go_wp2
      go_ret
      exact ⟨w.heap.size + 1, rfl, by omega, HB.out, hbw.trans (hB.mono hbw.size)⟩

/-- (open).at -/
theorem at_any (b p c : Nat) (f : Nat → Bool) (x : Int) (w : World) (hb : BoolsAt w b 0 p f) (hp : 1 ≤ p) (hp2 : p ≤ 1000000) (hx : 0 ≤ x) :
    Calls Try.prog 73 #[.slice (some ⟨b, 0, none⟩) p c, .int .i64 x] w fun e w' => e = .returned (.bool (f (x.toNat % p))) ∧ w = w' := by
  obtain ⟨y, rfl⟩ := Int.eq_ofNat_of_zero_le hx
  have hlt := Nat.mod_lt y (show 0 < p by omega)
  have hc := hb.2 (y % p) hlt
  rw [Nat.zero_add] at hc
  have hne : ((p : Int) == 0) = false := by simp; omega
  have hlt2 : (y : Int) % p < p := Int.emod_lt_of_pos _ (by omega)
  have hge2 : 0 ≤ (y : Int) % p := Int.emod_nonneg _ (by omega)
  clear hb
  go_enter Try.func73, Try.ntmps73
  go_wp2
  go_ret
  exact ⟨rfl, rfl⟩
end Go.Proofs.Ytfabpkcgdblnbaa
