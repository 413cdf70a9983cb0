/-
  window.Hits; the reference's Meet, Never, IsNever, Hits; Long and Awake: what each returns. Conditions: the rounds lie in memory.
-/
import Derived.Test.YtfabpkcgdblnbaaR3
namespace Go.Proofs.Ytfabpkcgdblnbaa
set_option linter.unusedVariables false
set_option linter.unusedSimpArgs false
open Go.RowKit

theorem hits1_any (a e h : Int) (b : Nat) (w : World) (hb : b < w.heap.size) (hc : w.cell? ⟨b, 0, none⟩ = some (.int .i64 h)) (he : 1 ≤ e ∧ e ≤ 1000) (h0 : 0 ≤ h) :
    Calls Try.prog 71 #[.agg #[.int .i64 a, .int .i64 e], .pointer (some ⟨b, 0, none⟩)] w fun r w' => r = .returned (.bool (h % e != a)) ∧ Below w.heap.size w w' := by
  obtain ⟨he, he'⟩ := he
  have hne : (e == 0) = false := by simp; omega
  have hc2 : ∀ o, (w.alloc o).cell? ⟨b, 0, none⟩ = some (.int .i64 h) := fun o => (World.cell?_alloc_lt w o ⟨b, 0, none⟩ hb).trans hc
  clear hc
  go_enter Try.func71, Try.ntmps71
  go_wp2
  go_quiet (fail)
  go_wp2
  go_ret
  exact ⟨rfl, bdn ((Below.refl _ _).alloc (Nat.le_refl _) _) _⟩

theorem idxf_hits (A : Option Addr) (n c : Nat) (ra re : Nat → Int) (h : Int) (hb0 : Nat) (w : World) (hr : RoundsAt w A n ra re) (hv : Valids ra re n) (hlt0 : hb0 < w.heap.size) (hh : w.cell? ⟨hb0, 0, none⟩ = some (.int .i64 h)) (h0 : 0 ≤ h) :
    Calls Try.prog 98 #[.slice A n c, .func (.func 71) #[] #[.pointer (some ⟨hb0, 0, none⟩)]] w fun e w' => e = .returned (.int .i64 (idxB n (fun i => h % re i != ra i))) ∧ Below w.heap.size w w' := by
  obtain ⟨hn, b, off, hb, hA, hc⟩ := hr
  have HV := hid hv
  clear hv
  go_enter Try.func98, Try.ntmps98
  go_wp2_with fail
  go_loopw [8] (fun i wr => ∃ k : Nat, k ≤ n ∧ i = .int .i64 k ∧ Hid (∀ j, j < k → (h % re j != ra j) = false) ∧ Below w.heap.size w wr) (fun i _ => n - (intOf i).toNat)
  case atStart => exact ⟨0, by omega, rfl, hid (by omega), Below.refl _ _⟩
  case round =>
    obtain ⟨k, hk, rfl, HN, hB⟩ := hrel
    by_cases hlt : k < n
    · obtain rfl := hA (by omega)
      have hc1 := (hB.cell (p := ⟨b, off + k * 2, none⟩) (hb (by omega))).trans (hc k hlt).1
      have hc2 := (hB.cell (p := ⟨b, off + k * 2 + 1, none⟩) (hb (by omega))).trans (hc k hlt).2
      have hc3 := hid ((hB.cell (p := ⟨hb0, 0, none⟩) hlt0).trans hh)
      have hv := HV.out k hlt
      have hs : hb0 < wr.heap.size := Nat.lt_of_lt_of_le hlt0 hB.size
      clear hc hh
      cases hbad : (h % re k != ra k)
      · have HB := hid hbad
        go_wp2_with (go_at_call 71; refine (hits1_any _ _ _ _ _ hs hc3.out ⟨hv.1, hv.2.1⟩ h0).mono ?_; rintro e w' ⟨rfl, hb1⟩)
        go_roundw
        case rel => exact ⟨k + 1, by omega, by go_num, hid (fun j hj => by (by_cases e : j = k; (subst e; exact HB.out); exact HN.out j (by omega))), btr hB hb1 hB.size⟩
        case measure => simp [intOf]; omega
      · have HB := hid hbad
        go_wp2_with (go_at_call 71; refine (hits1_any _ _ _ _ _ hs hc3.out ⟨hv.1, hv.2.1⟩ h0).mono ?_; rintro e w' ⟨rfl, hb1⟩)
        go_ret
        exact ⟨ret_int (by rw [idxB_some (f := fun i => h % re i != ra i) hlt HB.out HN.out]), btr hB hb1 hB.size⟩
    · go_wp2
      go_ret
      exact ⟨ret_int (by rw [idxB_none fun j hj => HN.out j (by omega)]), hB⟩
theorem has_hits (A : Option Addr) (n c : Nat) (ra re : Nat → Int) (h : Int) (hb0 : Nat) (w : World) (hr : RoundsAt w A n ra re) (hv : Valids ra re n) (hlt0 : hb0 < w.heap.size) (hh : w.cell? ⟨hb0, 0, none⟩ = some (.int .i64 h)) (h0 : 0 ≤ h) :
    Calls Try.prog 70 #[.slice A n c, .func (.func 71) #[] #[.pointer (some ⟨hb0, 0, none⟩)]] w fun e w' => e = .returned (.bool (anyB n (fun i => h % re i != ra i))) ∧ Below w.heap.size w w' := by
  have HV := hid hv
  have HH := hid hh
  clear hv hh
  go_enter Try.func70, Try.ntmps70
  go_wp2_with (go_at_call 98; refine (idxf_hits _ _ _ _ _ _ _ _ hr HV.out hlt0 HH.out h0).mono ?_; rintro e w' ⟨rfl, hb1⟩)
  go_ret
  exact ⟨ret_bool idxB_any, hb1⟩

theorem wHits_any (A : Option Addr) (n c : Nat) (ra re : Nat → Int) (h : Int) (w : World) (hr : RoundsAt w A n ra re) :
    Calls Try.prog 26 #[.slice A n c, .int .i64 h] w fun e w' => e = .returned (.tuple #[.bool (hitsOf ra re n h).1, .int .i64 (hitsOf ra re n h).2]) ∧ Below w.heap.size w w' := by
  have hB0 : Below w.heap.size w (w.alloc (.cells #[.int .i64 h] 3)) := (Below.refl _ _).alloc (Nat.le_refl _) _
  have hcell : (w.alloc (.cells #[.int .i64 h] 3)).cell? ⟨w.heap.size, 0, none⟩ = some (.int .i64 h) := World.cell?_alloc_new w _ 3 0
  cases hb : okB ra re n
  · have e : hitsOf ra re n h = (false, 51) := by simp [hitsOf, hb]
    rw [e]
    have hno := hid (okB_false.1 hb)
    clear hb e
    go_enter Try.func26, Try.ntmps26
    go_wp2_with (go_at_call 63; refine (newR_no _ _ _ _ _ _ (hr.below hB0) hno.out).mono ?_; rintro e w1 ⟨rfl, hb1⟩)
    go_ret2
    exact ⟨rfl, btr hB0 hb1 (by simp)⟩
  · have hok := hid (okB_true.1 hb)
    by_cases h0 : h < 0
    · have e : hitsOf ra re n h = (false, 2) := by simp [hitsOf, hb, h0]
      rw [e]
      clear hb e
      go_enter Try.func26, Try.ntmps26
      go_wp2_with (go_at_call 63; refine (newR_yes _ _ _ _ _ _ (hr.below hB0) hok.out).mono ?_; rintro e w1 ⟨rfl, hb1⟩; have hc1 := (hb1.cell (p := ⟨w.heap.size, 0, none⟩) (by simp)).trans hcell)
      go_ret2
      exact ⟨rfl, btr hB0 hb1 (by simp)⟩
    · have e : hitsOf ra re n h = (inAllB ra re n h, 0) := by simp [hitsOf, hb, h0]
      rw [e]
      clear hb e
      go_enter Try.func26, Try.ntmps26
      go_wp2_with (first | (go_at_call 63; refine (newR_yes _ _ _ _ _ _ (hr.below hB0) hok.out).mono ?_; rintro e w1 ⟨rfl, hb1⟩; have hc1 := (hb1.cell (p := ⟨w.heap.size, 0, none⟩) (by simp)).trans hcell; have hs : w.heap.size < w1.heap.size := by (have := hb1.size; simp at this; omega)) | (go_at_call 70; refine (has_hits _ _ _ _ _ _ _ _ ((hr.below hB0).below hb1) hok.out.2 hs hc1 (by omega)).mono ?_; rintro e w2 ⟨rfl, hb2⟩))
      go_ret2
      exact ⟨rfl, btr (btr hB0 hb1 (by simp)) hb2 (by omega)⟩

/-! ### the reference -/
theorem rHits_any (A : Option Addr) (n c : Nat) (ra re : Nat → Int) (h : Int) (w : World) (hr : RoundsAt w A n ra re) :
    Calls Try.prog 27 #[.slice A n c, .int .i64 h] w fun e w' => e = .returned (.tuple #[.bool (hitsOf ra re n h).1, .int .i64 (hitsOf ra re n h).2]) ∧ Below w.heap.size w w' := by
  cases hb : okB ra re n
  · have e : hitsOf ra re n h = (false, 51) := by simp [hitsOf, hb]
    rw [e]
    clear e
    go_enter Try.func27, Try.ntmps27
    go_wp2_with (go_at_call 28; refine (areRounds_any _ _ _ _ _ _ hr).mono ?_; rintro e w1 ⟨rfl, hb1⟩)
    go_ret2
    exact ⟨rfl, hb1⟩
  · have hok := hid (okB_true.1 hb)
    by_cases h0 : h < 0
    · have e : hitsOf ra re n h = (false, 2) := by simp [hitsOf, hb, h0]
      rw [e]
      clear e
      go_enter Try.func27, Try.ntmps27
      go_wp2_with (go_at_call 28; refine (areRounds_any _ _ _ _ _ _ hr).mono ?_; rintro e w1 ⟨rfl, hb1⟩)
      go_ret2
      exact ⟨rfl, hb1⟩
    · have e : hitsOf ra re n h = (inAllB ra re n h, 0) := by simp [hitsOf, hb, h0]
      rw [e]
      clear e
      go_enter Try.func27, Try.ntmps27
      go_wp2_with (go_at_call 28; refine (areRounds_any _ _ _ _ _ _ hr).mono ?_; rintro e w1 ⟨rfl, hb1⟩)
      obtain ⟨hn, b, off, hbl, hA, hc⟩ := hr.below hb1
      go_loopw [15] (fun i wr => ∃ k : Nat, k ≤ n ∧ i = .int .i64 k ∧ Hid (∀ j, j < k → (h % re j != ra j) = false) ∧ Below w1.heap.size w1 wr) (fun i _ => n - (intOf i).toNat)
      case atStart => exact ⟨0, by omega, rfl, hid (by omega), Below.refl _ _⟩
      case round =>
        obtain ⟨k, hk, rfl, HN, hB⟩ := hrel
        by_cases hlt : k < n
        · obtain rfl := hA (by omega)
          have hc1 := (hB.cell (p := ⟨b, off + k * 2, none⟩) (hbl (by omega))).trans (hc k hlt).1
          have hc2 := (hB.cell (p := ⟨b, off + k * 2 + 1, none⟩) (hbl (by omega))).trans (hc k hlt).2
          have hv := hok.out.2 k hlt
          have hne : (re k == 0) = false := by simp; omega
          obtain ⟨v1, v2, v3, v4⟩ := hv
          clear hc
          cases hbad : (h % re k != ra k)
          · have HB := hid hbad
            go_wp2
            go_quiet (fail)
            go_wp2
            go_roundw
            case rel => exact ⟨k + 1, by omega, by go_num, hid (fun j hj => by (by_cases e : j = k; (subst e; exact HB.out); exact HN.out j (by omega))), bdn (hB.alloc hB.size _) _⟩
            case measure => simp [intOf]; omega
          · have HI : Hid (inAllB ra re n h = false) := by
              refine hid ?_
              unfold inAllB
              rw [anyB_true.2 ⟨k, hlt, hbad⟩]; rfl
            go_wp2
            go_quiet (fail)
            go_wp2
            go_ret2
            exact ⟨by rw [HI.out]; rfl, hb1.trans ((bdn (hB.alloc hB.size _) _).mono hb1.size)⟩
        · have HI : Hid (inAllB ra re n h = true) := by
            refine hid ?_
            unfold inAllB
            rw [anyB_false.2 fun j hj => HN.out j (by omega)]; rfl
          go_wp2
          go_ret2
          exact ⟨by rw [HI.out]; rfl, hb1.trans (hB.mono hb1.size)⟩

theorem rNever_any (A : Option Addr) (n c : Nat) (ra re : Nat → Int) (w : World) (hr : RoundsAt w A n ra re) :
    Calls Try.prog 23 #[.slice A n c] w fun e w' => e = .returned (.tuple #[.int .i64 (neverOf ra re n).1, .int .i64 (neverOf ra re n).2.1, .int .i64 (neverOf ra re n).2.2]) ∧ Below w.heap.size w w' := by
  cases hb : okB ra re n
  · have e : neverOf ra re n = (0, 0, 51) := by simp [neverOf, hb]
    rw [e]
    clear e
    go_enter Try.func23, Try.ntmps23
    go_wp2_with (go_at_call 28; refine (areRounds_any _ _ _ _ _ _ hr).mono ?_; rintro e w1 ⟨rfl, hb1⟩)
    go_ret3
    exact ⟨rfl, hb1⟩
  · have hok := hid (okB_true.1 hb)
    have n1 := hok.out.1.2
    have hsome : ∀ i k : Nat, pairOf (nev ra re) n = ((i : Int), (k : Int), true) → neverOf ra re n = ((i : Int), (k : Int), 0) := fun i k e => by simp [neverOf, hb, e]
    have hnone : pairOf (nev ra re) n = (0, 0, false) → neverOf ra re n = (0, 0, 5) := fun e => by simp [neverOf, hb, e]
    have HS := hid hsome
    have HNO := hid hnone
    clear hsome hnone
    go_enter Try.func23, Try.ntmps23
    go_wp2_with (go_at_call 28; refine (areRounds_any _ _ _ _ _ _ hr).mono ?_; rintro e w1 ⟨rfl, hb1⟩)
    obtain ⟨hn, b, off, hbl, hA, hc⟩ := hr.below hb1
    go_loopw [12] (fun x wr => ∃ i : Nat, i ≤ n ∧ x = .int .i64 i ∧ Hid (∀ x y, x < i → x < y → y < n → nev ra re x y = false) ∧ Below w1.heap.size w1 wr) (fun x _ => n - (intOf x).toNat)
    case atStart => exact ⟨0, by omega, rfl, hid (fun x y hx => by omega), Below.refl _ _⟩
    case round =>
      obtain ⟨i, hi, rfl, hno, hB⟩ := hrel
      by_cases hlt : i < n
      · go_wp2_with fail
        go_loopw [6] (fun y wi => ∃ k : Nat, i < k ∧ k ≤ n ∧ y = .int .i64 k ∧ Hid (∀ y, i < y → y < k → nev ra re i y = false) ∧ Below w1.heap.size w1 wi) (fun y _ => n - (intOf y).toNat)
        case atStart => exact ⟨i + 1, by omega, by omega, by go_num, hid (fun y hy => by omega), hB⟩
        case round =>

          obtain ⟨k, hik, hk, rfl, hno2, hB2⟩ := hrel
          by_cases hlt2 : k < n
          · obtain rfl := hA (by omega)
            have hc1 := Later.cells (B := w1.heap.size) (w := wr) ((hB2.cell (p := ⟨b, off + i * 2, none⟩) (hbl (by omega))).trans (hc i hlt).1) (hbl (by omega))
            have hc2 := Later.cells (B := w1.heap.size) (w := wr) ((hB2.cell (p := ⟨b, off + i * 2 + 1, none⟩) (hbl (by omega))).trans (hc i hlt).2) (hbl (by omega))
            have hc3 := Later.cells (B := w1.heap.size) (w := wr) ((hB2.cell (p := ⟨b, off + k * 2, none⟩) (hbl (by omega))).trans (hc k hlt2).1) (hbl (by omega))
            have hc4 := Later.cells (B := w1.heap.size) (w := wr) ((hB2.cell (p := ⟨b, off + k * 2 + 1, none⟩) (hbl (by omega))).trans (hc k hlt2).2) (hbl (by omega))
            have hv1 := hok.out.2 i hlt
            have hv2 := hok.out.2 k hlt2
            have hs := hB2.size
            clear hc hA
            have hq := fun (t : Bool) (ht : nv (ra i) (re i) (ra k) (re k) = t) (x : Later w1.heap.size wr) => Calls.later_of (v := .bool t) (x := x) hs <| ht ▸ (refNever_any (ra i) (re i) (ra k) (re k) x.up ⟨hv1.1, hv1.2.1⟩ ⟨hv2.1, hv2.2.1⟩ hv1.2.2 hv2.2.2)
            have HQ := hid hq
            clear hq hv1 hv2
            cases hnv : nev ra re i k
            · have HB := hid hnv
              have HQ2 := hid (HQ.out false hnv)
              clear hnv
              go_wp2_with fail
              refine wp_region_later w1.heap.size (by kernel_rfl) (by kernel_rfl) ?_
              repeat (go_big_quiet_step ((go_at_call 67; exact HQ2.out _)))
              refine wpQuiet_nil ?_
              rintro _ ⟨⟨w3, hb3⟩, rfl⟩
              go_wp2
              go_roundw
              case rel => exact ⟨k + 1, by omega, by omega, by go_num, hid (fun y h1 h2 => by (by_cases e : y = k; (subst e; exact HB.out); exact hno2.out y h1 (by omega))), hB2.trans hb3⟩
              case measure => simp [intOf]; omega
            · have HB := hid hnv
              have HQ2 := hid (HQ.out true hnv)
              clear hnv
              go_wp2_with fail
              refine wp_region_later w1.heap.size (by kernel_rfl) (by kernel_rfl) ?_
              repeat (go_big_quiet_step ((go_at_call 67; exact HQ2.out _)))
              refine wpQuiet_nil ?_
              rintro _ ⟨⟨w3, hb3⟩, rfl⟩
              go_wp2
              go_ret3
              exact ⟨by rw [HS.out i k (pairOf_some hik hlt2 HB.out hno.out hno2.out)]; rfl, hb1.trans ((hB2.trans hb3).mono hb1.size)⟩
          · go_wp2_with fail
            go_roundw
            case rel => exact ⟨i + 1, by omega, by go_num, hid (fun x y h1 h2 h3 => by (by_cases e : x = i; (subst e; exact hno2.out y h2 (by omega)); exact hno.out x y (by omega) h2 h3)), hB2⟩
            case measure => simp [intOf]; omega
      · go_wp2
        go_ret3
        exact ⟨by rw [HNO.out (pairOf_none fun x y h1 h2 => hno.out x y (by omega) h1 h2)]; rfl, hb1.trans (hB.mono hb1.size)⟩
end Go.Proofs.Ytfabpkcgdblnbaa
