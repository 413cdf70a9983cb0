/-
  Open and Next, of the program and of the reference: what each returns. Conditions: the hours lie in memory.
-/
import Derived.Test.YtfabpkcgdblnbaaW2
namespace Go.Proofs.Ytfabpkcgdblnbaa
set_option linter.unusedVariables false
set_option linter.unusedSimpArgs false
open Go.RowKit

theorem box2 {w w1 w2 : World} (o : Obj) (h1 : Below (w.alloc o).heap.size (w.alloc o) w1) (h2 : Below w1.heap.size w1 w2) : Below w.heap.size w w2 := box_trans o (btr h1 h2 h1.size)
def openOf (P : Int) (n : Nat) (h : Nat → Int) (x : Int) : Bool × Int :=
  if winB P n h 3600 then (if btw 0 x 1000000000 then (opn n h (x.toNat % P.toNat), 0) else (false, 2)) else (false, 50)
def nextF (p : Nat) (f : Nat → Bool) (x : Nat) (k : Nat) : Bool := f ((x + k) % p)
def nextOf (P : Int) (n : Nat) (h : Nat → Int) (x : Int) : Int × Int :=
  if winB P n h 3600 then (if btw 0 x 1000000000 then (if anyB P.toNat (nextF P.toNat (opn n h) x.toNat) then (x + idxB P.toNat (nextF P.toNat (opn n h) x.toNat), 0) else (0, 5)) else (0, 2)) else (0, 50)

theorem wOpen_any (P : Int) (A : Option Addr) (n c : Nat) (h : Nat → Int) (x : Int) (w : World) (hh : HoursAt w A n h) :
    Calls Try.prog 43 #[.agg #[.int .i64 P, .slice A n c], .int .i64 x] w fun e w' => e = .returned (.tuple #[.bool (openOf P n h x).1, .int .i64 (openOf P n h x).2]) ∧ Below w.heap.size w w' := by
  cases hw : winB P n h 3600
  · rw [show openOf P n h x = (false, 50) by simp [openOf, hw]]
    go_enter Try.func43, Try.ntmps43
    go_wp2_with (go_at_call 72; refine (newOpen_no _ _ _ _ _ _ _ (hh.alloc _) (by omega) hw).mono ?_; rintro e w1 ⟨rfl, hb1⟩)
    go_ret2
    exact ⟨rfl, box_trans _ hb1⟩
  · have hv := (winB_true.1 hw).1
    obtain ⟨p, rfl⟩ := Int.eq_ofNat_of_zero_le (show 0 ≤ P by omega)
    cases hx : btw 0 x 1000000000
    · rw [show openOf p n h x = (false, 2) by simp [openOf, hw, hx]]
      go_enter Try.func43, Try.ntmps43
      go_wp2_with (first
        | (go_at_call 72; refine (newOpen_yes _ _ _ _ _ _ _ (hh.alloc _) (by omega) hw).mono ?_; rintro e w1 ⟨g, rfl, hg, hblk, hb1⟩)
        | (go_at_call 80; refine (isHour_any _ _).mono ?_; rintro e w' ⟨rfl, rfl⟩))
      go_ret2
      exact ⟨rfl, box_trans _ hb1⟩
    · rw [show openOf p n h x = (opn n h (x.toNat % p), 0) by simp [openOf, hw, hx]]
      have hx0 := (btw_iff.1 hx).1
      go_enter Try.func43, Try.ntmps43
      go_wp2_with (first
        | (go_at_call 72; refine (newOpen_yes _ _ _ _ _ _ _ (hh.alloc _) (by omega) hw).mono ?_; rintro e w1 ⟨g, rfl, hg, hblk, hb1⟩)
        | (go_at_call 80; refine (isHour_any _ _).mono ?_; rintro e w' ⟨rfl, rfl⟩)
        | (go_at_call 73; refine (at_any _ _ _ _ _ _ (BoolsAt.of_blk hblk) (by omega) (by omega) (by omega)).mono ?_; rintro e w' ⟨rfl, rfl⟩))
      go_ret2
      exact ⟨rfl, box_trans _ hb1⟩

theorem rOpen_any (P : Int) (A : Option Addr) (n c : Nat) (h : Nat → Int) (x : Int) (w : World) (hh : HoursAt w A n h) :
    Calls Try.prog 44 #[.agg #[.int .i64 P, .slice A n c], .int .i64 x] w fun e w' => e = .returned (.tuple #[.bool (openOf P n h x).1, .int .i64 (openOf P n h x).2]) ∧ Below w.heap.size w w' := by
  cases hw : winB P n h 3600
  · rw [show openOf P n h x = (false, 50) by simp [openOf, hw]]
    go_enter Try.func44, Try.ntmps44
    go_wp2_with (go_at_call 35; refine (rWide_any _ _ _ _ _ _ (hh.alloc _)).mono ?_; rintro e w1 ⟨rfl, hb1⟩)
    go_ret2
    exact ⟨rfl, box_trans _ hb1⟩
  · have hv := (winB_true.1 hw).1
    obtain ⟨p, rfl⟩ := Int.eq_ofNat_of_zero_le (show 0 ≤ P by omega)
    cases hx : btw 0 x 1000000000
    · rw [show openOf p n h x = (false, 2) by simp [openOf, hw, hx]]
      go_enter Try.func44, Try.ntmps44
      go_wp2_with (first
        | (go_at_call 35; refine (rWide_any _ _ _ _ _ _ (hh.alloc _)).mono ?_; rintro e w1 ⟨rfl, hb1⟩)
        | (go_at_call 85; refine (rIsHour_any _ _).mono ?_; rintro e w' ⟨rfl, rfl⟩))
      go_ret2
      exact ⟨rfl, box_trans _ hb1⟩
    · rw [show openOf p n h x = (opn n h (x.toNat % p), 0) by simp [openOf, hw, hx]]
      obtain ⟨y, rfl⟩ := Int.eq_ofNat_of_zero_le (btw_iff.1 hx).1
      have HW := hid hw
      have hlt := Nat.mod_lt y (show 0 < p by omega)
      have hp0 : ¬ p = 0 := by omega
      have hT : (y : Int).tmod (p : Int) = ((y % p : Nat) : Int) := rfl
      have hE : (y : Int) % (p : Int) = ((y % p : Nat) : Int) := rfl
      rw [Int.toNat_natCast]
      generalize y % p = z at *
      have hlt2 : (z : Int) < p := by omega
      have hge2 : (0 : Int) ≤ z := by omega
      go_enter Try.func44, Try.ntmps44
      go_wp2_with (first
        | (go_at_call 35; refine (rWide_any _ _ _ _ _ _ (hh.alloc _)).mono ?_; rintro e w1 ⟨rfl, hb1⟩; have hcc := (bcell hb1).1; have hs1 : w.heap.size < w1.heap.size := (by have := hb1.size; simp at this; omega))
        | (go_at_call 85; refine (rIsHour_any _ _).mono ?_; rintro e w' ⟨rfl, rfl⟩))
      have hH1 := (hh.alloc (.cells #[.int .i64 (p : Int), .slice A n c] 40)).below hb1
      have hk1 : w1.cell? ⟨w.heap.size, 0, none⟩ = some (.int .i64 (p : Int)) := by rw [hcc _ _ (by simp)]; exact World.cell?_alloc_new w #[.int .i64 (p : Int), .slice A n c] 40 0
      have hk2 : w1.cell? ⟨w.heap.size, 1, none⟩ = some (.slice A n c) := by rw [hcc _ _ (by simp)]; exact World.cell?_alloc_new w #[.int .i64 (p : Int), .slice A n c] 40 1
      clear hcc
      go_region_with (go_at_call 74; refine (hours_any _ _ _ _ _ 3600 _ (by exact hH1.drewN 1) (by omega) HW.out).mono ?_; rintro e w2 ⟨g, rfl, hg, hblk, hb2⟩; have hc3 := (hblk.cell z).trans (tabA_get _ hlt); have hq1 := (hb2.cell (p := ⟨w.heap.size, 0, none⟩) hs1).trans hk1; have hq2 := (hb2.cell (p := ⟨w.heap.size, 1, none⟩) hs1).trans hk2)
      all_goals
        go_wp2
        go_ret2
        exact ⟨rfl, box2 _ hb1 ((bdr w1 1).trans hb2)⟩

theorem nextOf_hit {p n : Nat} {h : Nat → Int} {x k : Nat} (hw : winB p n h 3600 = true) (hx : btw 0 (x : Int) 1000000000 = true) (hk : k < p) (hf : opn n h ((x + k) % p) = true) (hno : ∀ j, j < k → opn n h ((x + j) % p) = false) :
    nextOf p n h x = ((x : Int) + (k : Int), 0) := by
  unfold nextOf
  rw [if_pos hw, if_pos hx]
  simp only [Int.toNat_natCast]
  rw [if_pos (anyB_true.2 ⟨k, hk, hf⟩), idxB_some (f := nextF p (opn n h) x) hk hf hno]
theorem nextOf_no {p n : Nat} {h : Nat → Int} {x : Nat} (hw : winB p n h 3600 = true) (hx : btw 0 (x : Int) 1000000000 = true) (hno : ∀ j, j < p → opn n h ((x + j) % p) = false) :
    nextOf p n h x = (0, 5) := by
  unfold nextOf
  rw [if_pos hw, if_pos hx]
  simp only [Int.toNat_natCast]
  have e : anyB p (nextF p (opn n h) x) = false := anyB_false.2 hno
  rw [if_neg (by rw [e]; simp)]

theorem wNext_any (P : Int) (A : Option Addr) (n c : Nat) (h : Nat → Int) (x : Int) (w : World) (hh : HoursAt w A n h) :
    Calls Try.prog 36 #[.agg #[.int .i64 P, .slice A n c], .int .i64 x] w fun e w' => e = .returned (.tuple #[.int .i64 (nextOf P n h x).1, .int .i64 (nextOf P n h x).2]) ∧ Below w.heap.size w w' := by
  cases hw : winB P n h 3600
  · rw [show nextOf P n h x = (0, 50) by simp [nextOf, hw]]
    go_enter Try.func36, Try.ntmps36
    go_wp2_with (go_at_call 72; refine (newOpen_no _ _ _ _ _ _ _ (hh.alloc _) (by omega) hw).mono ?_; rintro e w1 ⟨rfl, hb1⟩)
    go_ret2
    exact ⟨rfl, box_trans _ hb1⟩
  · have hv := (winB_true.1 hw).1
    obtain ⟨p, rfl⟩ := Int.eq_ofNat_of_zero_le (show 0 ≤ P by omega)
    cases hx : btw 0 x 1000000000
    · rw [show nextOf p n h x = (0, 2) by simp [nextOf, hw, hx]]
      go_enter Try.func36, Try.ntmps36
      go_wp2_with (first
        | (go_at_call 72; refine (newOpen_yes _ _ _ _ _ _ _ (hh.alloc _) (by omega) hw).mono ?_; rintro e w1 ⟨g, rfl, hg, hblk, hb1⟩)
        | (go_at_call 80; refine (isHour_any _ _).mono ?_; rintro e w' ⟨rfl, rfl⟩))
      go_ret2
      exact ⟨rfl, box_trans _ hb1⟩
    · have hx0 := btw_iff.1 hx
      obtain ⟨y, rfl⟩ := Int.eq_ofNat_of_zero_le hx0.1
      have HW := hid hw
      have HX := hid hx
      go_enter Try.func36, Try.ntmps36
      go_wp2_with (first
        | (go_at_call 72; refine (newOpen_yes _ _ _ _ _ _ _ (hh.alloc _) (by omega) hw).mono ?_; rintro e w1 ⟨g, rfl, hg, hblk, hb1⟩)
        | (go_at_call 80; refine (isHour_any _ _).mono ?_; rintro e w' ⟨rfl, rfl⟩))
      have hB := hid (BoolsAt.of_blk hblk)
      clear hblk hw hx
      go_loop [8] (fun i => ∃ k : Nat, k ≤ p ∧ i = .int .i64 (y + k) ∧ Hid (∀ j, j < k → opn n h ((y + j) % p) = false)) (fun i => y + p - (intOf i).toNat)
      case atStart => exact ⟨0, by omega, by simp, hid (by omega)⟩
      case round =>
        obtain ⟨k, hk, rfl, HN⟩ := hrel
        by_cases hlt : k < p
        · have hbk : ((y : Int) + (k : Int)).toNat = y + k := by omega
          cases hf : opn n h ((y + k) % p)
          · have HF := hid hf
            go_wp2_with (go_at_call 73; refine (at_any _ _ _ _ _ _ hB.out (by omega) (by omega) (by omega)).mono ?_; rintro e w' ⟨rfl, rfl⟩)
            go_round
            case rel => exact ⟨k + 1, by omega, by rw [Int.natCast_add, Int.add_assoc]; rfl, hid (fun j hj => by (by_cases e : j = k; (subst e; exact HF.out); exact HN.out j (by omega)))⟩
            case measure => simp [intOf]; omega
          · have HF := hid (nextOf_hit HW.out HX.out hlt hf HN.out)
            go_wp2_with (go_at_call 73; refine (at_any _ _ _ _ _ _ hB.out (by omega) (by omega) (by omega)).mono ?_; rintro e w' ⟨rfl, rfl⟩)
            go_ret2
            exact ⟨by rw [HF.out]; rfl, box_trans _ hb1⟩
        · have HF := hid (nextOf_no HW.out HX.out fun j hj => HN.out j (by omega))
          go_wp2
          go_ret2
          exact ⟨by rw [HF.out]; rfl, box_trans _ hb1⟩

theorem rNext_any (P : Int) (A : Option Addr) (n c : Nat) (h : Nat → Int) (x : Int) (w : World) (hh : HoursAt w A n h) :
    Calls Try.prog 45 #[.agg #[.int .i64 P, .slice A n c], .int .i64 x] w fun e w' => e = .returned (.tuple #[.int .i64 (nextOf P n h x).1, .int .i64 (nextOf P n h x).2]) ∧ Below w.heap.size w w' := by
  cases hw : winB P n h 3600
  · rw [show nextOf P n h x = (0, 50) by simp [nextOf, hw]]
    go_enter Try.func45, Try.ntmps45
    go_wp2_with (go_at_call 35; refine (rWide_any _ _ _ _ _ _ (hh.alloc _)).mono ?_; rintro e w1 ⟨rfl, hb1⟩)
    go_ret2
    exact ⟨rfl, box_trans _ hb1⟩
  · have hv := (winB_true.1 hw).1
    obtain ⟨p, rfl⟩ := Int.eq_ofNat_of_zero_le (show 0 ≤ P by omega)
    cases hx : btw 0 x 1000000000
    · rw [show nextOf p n h x = (0, 2) by simp [nextOf, hw, hx]]
      go_enter Try.func45, Try.ntmps45
      go_wp2_with (first
        | (go_at_call 35; refine (rWide_any _ _ _ _ _ _ (hh.alloc _)).mono ?_; rintro e w1 ⟨rfl, hb1⟩)
        | (go_at_call 85; refine (rIsHour_any _ _).mono ?_; rintro e w' ⟨rfl, rfl⟩))
      go_ret2
      exact ⟨rfl, box_trans _ hb1⟩
    · have hx0 := btw_iff.1 hx
      obtain ⟨y, rfl⟩ := Int.eq_ofNat_of_zero_le hx0.1
      have HW := hid hw
      have HX := hid hx
      have hne : ((p : Int) == 0) = false := by simp; omega
      go_enter Try.func45, Try.ntmps45
      go_wp2_with (first
        | (go_at_call 35; refine (rWide_any _ _ _ _ _ _ (hh.alloc _)).mono ?_; rintro e w1 ⟨rfl, hb1⟩; have hcc := (bcell hb1).1; have hs1 : w.heap.size < w1.heap.size := (by have := hb1.size; simp at this; omega))
        | (go_at_call 85; refine (rIsHour_any _ _).mono ?_; rintro e w' ⟨rfl, rfl⟩)
        | (go_at_call 74; refine (hours_any _ _ _ _ _ 3600 _ ((hh.alloc _).below hb1) (by omega) HW.out).mono ?_; rintro e w2 ⟨g, rfl, hg, hblk, hb2⟩; have hcd := (bcell hb2).1))
      have hk1 : w2.cell? ⟨w.heap.size, 0, none⟩ = some (.int .i64 (p : Int)) := by rw [hcd _ _ hs1, hcc _ _ (by simp)]; exact World.cell?_alloc_new w #[.int .i64 (p : Int), .slice A n c] 40 0
      have hbe := box2 _ hb1 hb2
      have hB := hid (BoolsAt.of_blk hblk)
      clear hcc hcd hblk hw hx
      go_loop [18] (fun i => ∃ k : Nat, k ≤ p ∧ i = .int .i64 k ∧ Hid (∀ j, j < k → opn n h ((y + j) % p) = false)) (fun i => p - (intOf i).toNat)
      case atStart => exact ⟨0, by omega, by simp, hid (by omega)⟩
      case round =>
        obtain ⟨k, hk, rfl, HN⟩ := hrel
        by_cases hlt : k < p
        · have hlm := Nat.mod_lt (y + k) (show 0 < p by omega)
          have hE : ((y : Int) + (k : Int)) % (p : Int) = (((y + k) % p : Nat) : Int) := by simp
          have hc := hB.out.2 _ hlm
          rw [Nat.zero_add] at hc
          have HI := hid (nextOf_hit HW.out HX.out hlt · HN.out)
          cases hf : opn n h ((y + k) % p)
          · have HF := hid hf
            rw [hf] at hc
            clear hf HI
            generalize (y + k) % p = z at hE hc hlm
            go_wp2
            go_round
            case rel => exact ⟨k + 1, by omega, by go_num, hid (fun j hj => by (by_cases e : j = k; (subst e; exact HF.out); exact HN.out j (by omega)))⟩
            case measure => simp [intOf]; omega
          · have HF := hid (HI.out hf)
            rw [hf] at hc
            clear hf HI
            generalize (y + k) % p = z at hE hc hlm
            go_wp2
            go_ret2
            exact ⟨by rw [HF.out]; rfl, hbe⟩
        · have HF := hid (nextOf_no HW.out HX.out fun j hj => HN.out j (by omega))
          go_wp2
          go_ret2
          exact ⟨by rw [HF.out]; rfl, hbe⟩
end Go.Proofs.Ytfabpkcgdblnbaa
