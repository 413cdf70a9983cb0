/-
  isWindow, Valid, Wide, isHour of the program and of the reference; newOpen, hours, at: what each returns. Conditions: stated at each.
-/
import Derived.Test.YtfabpkcgdblnbaaWm
namespace Go.Proofs.Ytfabpkcgdblnbaa
set_option linter.unusedVariables false
set_option linter.unusedSimpArgs false
open Go.RowKit

/-- window.isWindow -/
theorem isWin_any (P : Int) (A : Option Addr) (n c : Nat) (h : Nat → Int) (most : Int) (w : World) (hh : HoursAt w A n h) (hm : most ≤ 1000000) :
    Calls Try.prog 86 #[.agg #[.int .i64 P, .slice A n c], .int .i64 most] w fun e w' => e = .returned (.bool (winB P n h most)) ∧ Below w.heap.size w w' := by
  obtain ⟨hn, b, off, hb, hA, hc⟩ := hh
  have hB0 : ∀ o, Below w.heap.size w (w.alloc o) := fun o => (Below.refl _ _).alloc (Nat.le_refl _) o
  by_cases hP : 1 ≤ P ∧ P ≤ most
  · obtain ⟨p1, p2⟩ := hP
    have hbt := btw_true p1 p2
    go_enter Try.func86, Try.ntmps86
    go_wp2_with (go_at_call 68; refine (between_any _ _ _ _).mono ?_; rintro e w' ⟨rfl, rfl⟩)
    go_loop [15] (fun i => ∃ k : Nat, k ≤ n ∧ i = .int .i64 k ∧ Hid (∀ j, j < k → badH P h j = false)) (fun i => n - (intOf i).toNat)
    case atStart => exact ⟨0, by omega, rfl, hid (by omega)⟩
    case round =>
      obtain ⟨k, hk, rfl, HN⟩ := hrel
      by_cases hlt : k < n
      · obtain rfl := hA (by omega)
        have hc1 : ∀ o, (w.alloc o).cell? ⟨b, off + k, none⟩ = some (.int .i64 (h k)) := fun o => (World.cell?_alloc_lt w o ⟨b, off + k, none⟩ (hb (by omega))).trans (hc k hlt)
        by_cases c1 : 0 ≤ h k ∧ h k ≤ P - 1
        · have hb1 := btw_true c1.1 c1.2
          by_cases c2 : 0 < k
          · have hc2 : ∀ o, (w.alloc o).cell? ⟨b, off + (k - 1), none⟩ = some (.int .i64 (h (k - 1))) := fun o => (World.cell?_alloc_lt w o ⟨b, off + (k - 1), none⟩ (hb (by omega))).trans (hc (k - 1) (by omega))
            by_cases c3 : h k ≤ h (k - 1)
            · have HB := hid (winB_bad (P := P) (most := most) hlt (h := h) (by cases e : badH P h k; (have := (badH_false.1 e).2 c2; omega); rfl))
              clear hc
              go_wp2_with (go_at_call 68; refine (between_any _ _ _ _).mono ?_; rintro e w' ⟨rfl, rfl⟩)
              go_ret
              exact ⟨ret_bool (by rw [HB.out]), hB0 _⟩
            · have HB := hid (badH_false.2 ⟨⟨c1.1, by omega⟩, fun _ => by omega⟩ : badH P h k = false)
              clear hc
              go_wp2_with (go_at_call 68; refine (between_any _ _ _ _).mono ?_; rintro e w' ⟨rfl, rfl⟩)
              go_round
              case rel => exact ⟨k + 1, by omega, by go_num, hid (fun j hj => by (by_cases e : j = k; (subst e; exact HB.out); exact HN.out j (by omega)))⟩
              case measure => simp [intOf]; omega
          · have HB := hid (badH_false.2 ⟨⟨c1.1, by omega⟩, fun _ => by omega⟩ : badH P h k = false)
            clear hc
            go_wp2_with (go_at_call 68; refine (between_any _ _ _ _).mono ?_; rintro e w' ⟨rfl, rfl⟩)
            go_round
            case rel => exact ⟨k + 1, by omega, by go_num, hid (fun j hj => by (by_cases e : j = k; (subst e; exact HB.out); exact HN.out j (by omega)))⟩
            case measure => simp [intOf]; omega
        · have hb1 := btw_iff'.2 c1
          have HB := hid (winB_bad (P := P) (most := most) hlt (h := h) (by cases e : badH P h k; (have := (badH_false.1 e).1; omega); rfl))
          clear hc c1
          go_wp2_with (go_at_call 68; refine (between_any _ _ _ _).mono ?_; rintro e w' ⟨rfl, rfl⟩)
          go_ret
          exact ⟨ret_bool (by rw [HB.out]), hB0 _⟩
      · have HB := hid (winB_mk (n := n) (h := h) p1 p2 fun i hi => HN.out i (by omega))
        go_wp2
        go_ret
        exact ⟨ret_bool (by rw [HB.out]), hB0 _⟩
  · have hbt := btw_iff'.2 hP
    have HB := hid (winB_no (n := n) (h := h) hP)
    clear hP
    go_enter Try.func86, Try.ntmps86
    go_wp2_with (go_at_call 68; refine (between_any _ _ _ _).mono ?_; rintro e w' ⟨rfl, rfl⟩)
    go_ret
    exact ⟨ret_bool (by rw [HB.out]), hB0 _⟩

/-- skimmerref05.isWindow -/
theorem rIsWin_any (P : Int) (A : Option Addr) (n c : Nat) (h : Nat → Int) (most : Int) (w : World) (hh : HoursAt w A n h) (hm : most ≤ 1000000) :
    Calls Try.prog 79 #[.agg #[.int .i64 P, .slice A n c], .int .i64 most] w fun e w' => e = .returned (.bool (winB P n h most)) ∧ Below w.heap.size w w' := by
  obtain ⟨hn, b, off, hb, hA, hc⟩ := hh
  have hB0 : ∀ o, Below w.heap.size w (w.alloc o) := fun o => (Below.refl _ _).alloc (Nat.le_refl _) o
  by_cases hP1 : P < 1
  · have HB := hid (winB_no (n := n) (h := h) (P := P) (most := most) (by omega))
    go_enter Try.func79, Try.ntmps79
    go_wp2
    go_ret
    exact ⟨ret_bool (by rw [HB.out]), hB0 _⟩
  · by_cases hP2 : most < P
    · have HB := hid (winB_no (n := n) (h := h) (P := P) (most := most) (by omega))
      go_enter Try.func79, Try.ntmps79
      go_wp2
      go_ret
      exact ⟨ret_bool (by rw [HB.out]), hB0 _⟩
    · have p1 : 1 ≤ P := by omega
      have p2 : P ≤ most := by omega
      go_enter Try.func79, Try.ntmps79
      go_wp2_with fail
      go_loop [19] (fun i => ∃ k : Nat, k ≤ n ∧ i = .int .i64 k ∧ Hid (∀ j, j < k → badH P h j = false)) (fun i => n - (intOf i).toNat)
      case atStart => exact ⟨0, by omega, rfl, hid (by omega)⟩
      case round =>
        obtain ⟨k, hk, rfl, HN⟩ := hrel
        by_cases hlt : k < n
        · obtain rfl := hA (by omega)
          have hc1 : ∀ o, (w.alloc o).cell? ⟨b, off + k, none⟩ = some (.int .i64 (h k)) := fun o => (World.cell?_alloc_lt w o ⟨b, off + k, none⟩ (hb (by omega))).trans (hc k hlt)
          by_cases c1 : h k < 0
          · have HB := hid (winB_bad (P := P) (most := most) hlt (h := h) (by cases e : badH P h k; (have := (badH_false.1 e).1; omega); rfl))
            clear hc
            go_wp2
            go_ret
            exact ⟨ret_bool (by rw [HB.out]), hB0 _⟩
          · by_cases c4 : P ≤ h k
            · have HB := hid (winB_bad (P := P) (most := most) hlt (h := h) (by cases e : badH P h k; (have := (badH_false.1 e).1; omega); rfl))
              clear hc
              go_wp2
              go_ret
              exact ⟨ret_bool (by rw [HB.out]), hB0 _⟩
            · by_cases c2 : 0 < k
              · have hc2 : ∀ o, (w.alloc o).cell? ⟨b, off + (k - 1), none⟩ = some (.int .i64 (h (k - 1))) := fun o => (World.cell?_alloc_lt w o ⟨b, off + (k - 1), none⟩ (hb (by omega))).trans (hc (k - 1) (by omega))
                by_cases c3 : h k ≤ h (k - 1)
                · have HB := hid (winB_bad (P := P) (most := most) hlt (h := h) (by cases e : badH P h k; (have := (badH_false.1 e).2 c2; omega); rfl))
                  clear hc
                  go_wp2
                  go_ret
                  exact ⟨ret_bool (by rw [HB.out]), hB0 _⟩
                · have HB := hid (badH_false.2 ⟨⟨by omega, by omega⟩, fun _ => by omega⟩ : badH P h k = false)
                  clear hc
                  go_wp2
                  go_round
                  case rel => exact ⟨k + 1, by omega, by go_num, hid (fun j hj => by (by_cases e : j = k; (subst e; exact HB.out); exact HN.out j (by omega)))⟩
                  case measure => simp [intOf]; omega
              · have HB := hid (badH_false.2 ⟨⟨by omega, by omega⟩, fun _ => by omega⟩ : badH P h k = false)
                clear hc
                go_wp2
                go_round
                case rel => exact ⟨k + 1, by omega, by go_num, hid (fun j hj => by (by_cases e : j = k; (subst e; exact HB.out); exact HN.out j (by omega)))⟩
                case measure => simp [intOf]; omega
        · have HB := hid (winB_mk (n := n) (h := h) p1 p2 fun i hi => HN.out i (by omega))
          go_wp2
          go_ret
          exact ⟨ret_bool (by rw [HB.out]), hB0 _⟩

theorem box_bel (w : World) (o : Obj) : Below w.heap.size w (w.alloc o) := (Below.refl _ _).alloc (Nat.le_refl _) o
theorem box_trans {w w' : World} (o : Obj) (h : Below (w.alloc o).heap.size (w.alloc o) w') : Below w.heap.size w w' := (box_bel w o).trans (h.mono (by simp))
/-- window.Valid -/
theorem valid_any (P : Int) (A : Option Addr) (n c : Nat) (h : Nat → Int) (w : World) (hh : HoursAt w A n h) :
    Calls Try.prog 46 #[.agg #[.int .i64 P, .slice A n c]] w fun e w' => e = .returned (.bool (winB P n h 60)) ∧ Below w.heap.size w w' := by
  go_enter Try.func46, Try.ntmps46
  go_wp2_with (go_at_call 86; refine (isWin_any _ _ _ _ _ _ _ (hh.alloc _) (by omega)).mono ?_; rintro e w1 ⟨rfl, hb1⟩)
  go_ret
  exact ⟨rfl, box_trans _ hb1⟩
/-- skimmerref05.Valid -/
theorem rValid_any (P : Int) (A : Option Addr) (n c : Nat) (h : Nat → Int) (w : World) (hh : HoursAt w A n h) :
    Calls Try.prog 47 #[.agg #[.int .i64 P, .slice A n c]] w fun e w' => e = .returned (.bool (winB P n h 60)) ∧ Below w.heap.size w w' := by
  go_enter Try.func47, Try.ntmps47
  go_wp2_with (go_at_call 79; refine (rIsWin_any _ _ _ _ _ _ _ (hh.alloc _) (by omega)).mono ?_; rintro e w1 ⟨rfl, hb1⟩)
  go_ret
  exact ⟨rfl, box_trans _ hb1⟩
/-- skimmerref05.Wide -/
theorem rWide_any (P : Int) (A : Option Addr) (n c : Nat) (h : Nat → Int) (w : World) (hh : HoursAt w A n h) :
    Calls Try.prog 35 #[.agg #[.int .i64 P, .slice A n c]] w fun e w' => e = .returned (.bool (winB P n h 3600)) ∧ Below w.heap.size w w' := by
  go_enter Try.func35, Try.ntmps35
  go_wp2_with (go_at_call 79; refine (rIsWin_any _ _ _ _ _ _ _ (hh.alloc _) (by omega)).mono ?_; rintro e w1 ⟨rfl, hb1⟩)
  go_ret
  exact ⟨rfl, box_trans _ hb1⟩
/-- skimmerlaw05.Wide -/
theorem lWide_any (P : Int) (A : Option Addr) (n c : Nat) (w : World) :
    Calls Try.prog 30 #[.agg #[.int .i64 P, .slice A n c]] w fun e w' => e = .returned (.bool (decide ((4000 : Int) < n))) ∧ Below w.heap.size w w' := by
  go_enter Try.func30, Try.ntmps30
  go_wp2
  go_ret
  exact ⟨rfl, box_bel _ _⟩
/-- window.isHour -/
theorem isHour_any (x : Int) (w : World) : Calls Try.prog 80 #[.int .i64 x] w fun e w' => e = .returned (.bool (btw 0 x 1000000000)) ∧ w = w' := by
  go_enter Try.func80, Try.ntmps80
  go_wp2_with (go_at_call 68; refine (between_any _ _ _ _).mono ?_; rintro e w' ⟨rfl, rfl⟩)
  go_ret
  exact ⟨rfl, rfl⟩
/-- skimmerref05.isHour -/
theorem rIsHour_any (x : Int) (w : World) : Calls Try.prog 85 #[.int .i64 x] w fun e w' => e = .returned (.bool (btw 0 x 1000000000)) ∧ w = w' := by
  by_cases h1 : 0 ≤ x
  · by_cases h2 : x ≤ 1000000000
    · have HB := hid (btw_true h1 h2)
      go_enter Try.func85, Try.ntmps85
      go_wp2
      go_ret
      exact ⟨ret_bool (by rw [HB.out] <;> simp <;> omega), rfl⟩
    · have HB := hid (btw_false (a := 0) (n := x) (b := 1000000000) (by omega))
      go_enter Try.func85, Try.ntmps85
      go_wp2
      go_ret
      exact ⟨ret_bool (by rw [HB.out] <;> simp <;> omega), rfl⟩
  · have HB := hid (btw_false (a := 0) (n := x) (b := 1000000000) (by omega))
    go_enter Try.func85, Try.ntmps85
    go_wp2
    go_ret
    exact ⟨ret_bool (by rw [HB.out] <;> simp <;> omega), rfl⟩
end Go.Proofs.Ytfabpkcgdblnbaa
