/-
  Longest, of the program and of the reference; the law WindowSpans. Conditions: the hours lie in memory.
-/
import Derived.Test.YtfabpkcgdblnbaaW5
import Derived.Test.YtfabpkcgdblnbaaMathS
namespace Go.Proofs.Ytfabpkcgdblnbaa
set_option linter.unusedVariables false
set_option linter.unusedSimpArgs false
open Go.RowKit

def longOf (P : Int) (n : Nat) (h : Nat → Int) : Int × Int × Int :=
  if winB P n h 3600 then (if (bestTo P.toNat (opn n h) P.toNat).2 = 0 then (0, 0, 5) else (((bestTo P.toNat (opn n h) P.toNat).1 : Int), ((bestTo P.toNat (opn n h) P.toNat).2 : Int), 0)) else (0, 0, 50)
theorem longOf_no {p n : Nat} {h : Nat → Int} (hw : winB p n h 3600 = true) (h0 : (bestTo p (opn n h) p).2 = 0) : longOf p n h = (0, 0, 5) := by
  unfold longOf; rw [if_pos hw, Int.toNat_natCast, if_pos h0]
theorem longOf_yes {p n : Nat} {h : Nat → Int} (hw : winB p n h 3600 = true) (h0 : (bestTo p (opn n h) p).2 ≠ 0) : longOf p n h = (((bestTo p (opn n h) p).1 : Int), ((bestTo p (opn n h) p).2 : Int), 0) := by
  unfold longOf; rw [if_pos hw, Int.toNat_natCast, if_neg h0]
theorem best_fst_lt {p : Nat} {f : Nat → Bool} : ∀ k, (bestTo p f k).1 ≤ k := by
  intro k
  induction k with
  | zero => exact Nat.le_refl _
  | succ k ih =>
    simp only [bestTo]
    split
    · simp
    · omega

set_option maxHeartbeats 1000000 in
theorem wLongest_any (P : Int) (A : Option Addr) (n c : Nat) (h : Nat → Int) (w : World) (hh : HoursAt w A n h) :
    Calls Try.prog 31 #[.agg #[.int .i64 P, .slice A n c]] w fun e w' => e = .returned (.tuple #[.int .i64 (longOf P n h).1, .int .i64 (longOf P n h).2.1, .int .i64 (longOf P n h).2.2]) ∧ Below w.heap.size w w' := by
  cases hw : winB P n h 3600
  · rw [show longOf P n h = (0, 0, 50) by simp [longOf, hw]]
    go_enter Try.func31, Try.ntmps31
    go_wp2_with (go_at_call 72; refine (newOpen_no _ _ _ _ _ _ _ (hh.alloc _) (by omega) hw).mono ?_; rintro e w1 ⟨rfl, hb1⟩)
    go_ret3
    exact ⟨rfl, box_trans _ hb1⟩
  · have hv := (winB_true.1 hw).1
    obtain ⟨p, rfl⟩ := Int.eq_ofNat_of_zero_le (show 0 ≤ P by omega)
    have hasc := asc_of hw
    have hle := hasc.le
    have HW := hid hw
    by_cases h0 : n = 0
    · have e0 := bestTo_none (p := p) (f := opn n h) (.inl fun j hj => opn_false.2 fun i hi => absurd hi (by omega)) p (Nat.le_refl _)
      rw [longOf_no hw (by rw [e0])]
      have hn0 : ((n : Int) == 0) = true := beq_iff_eq.2 (by omega)
      clear e0 hasc h0 hw
      go_enter Try.func31, Try.ntmps31
      go_wp2_with (go_at_call 72; refine (newOpen_yes _ _ _ _ _ _ _ (hh.alloc _) (by omega) HW.out).mono ?_; rintro e w1 ⟨g, rfl, hg, hblk, hb1⟩; have hcc := (bcell hb1).1; have hs1 : w.heap.size < w1.heap.size := (by have := hb1.size; simp at this; omega))
      go_ret3
      exact ⟨rfl, box_trans _ hb1⟩
    · by_cases h1 : n = p
      · have e0 : bestTo p (opn n h) p = (0, 0) := by
          rw [h1] at hasc ⊢
          exact bestTo_none (.inr fun j hj => opn_full hasc j hj) p (Nat.le_refl _)
        rw [longOf_no hw (by rw [e0])]
        have hn0 : ((n : Int) == 0) = false := beq_eq_false_iff_ne.2 (by omega)
        have hn1 : ((n : Int) == (p : Int)) = true := beq_iff_eq.2 (by omega)
        clear e0 hasc h1 h0 hw
        go_enter Try.func31, Try.ntmps31
        go_wp2_with (go_at_call 72; refine (newOpen_yes _ _ _ _ _ _ _ (hh.alloc _) (by omega) HW.out).mono ?_; rintro e w1 ⟨g, rfl, hg, hblk, hb1⟩; have hcc := (bcell hb1).1; have hs1 : w.heap.size < w1.heap.size := (by have := hb1.size; simp at this; omega))
        go_ret3
        exact ⟨rfl, box_trans _ hb1⟩
      · obtain ⟨j, hj, hj2⟩ := opn_gap hasc (by omega)
        have hpos : 0 < (bestTo p (opn n h) p).2 := by
          have h3 := hasc 0 (by omega)
          obtain ⟨y, hy⟩ := Int.eq_ofNat_of_zero_le h3.1.1
          exact bestTo_some (a := y) (b := j) (by have := h3.1.2; omega) hj (opn_true.2 ⟨0, by omega, hy⟩) hj2
        rw [longOf_yes hw (by omega)]
        have hn0 : ((n : Int) == 0) = false := beq_eq_false_iff_ne.2 (by omega)
        have hn1 : ((n : Int) == (p : Int)) = false := beq_eq_false_iff_ne.2 (by omega)
        clear hasc hj2 hpos
        go_enter Try.func31, Try.ntmps31
        go_wp2_with (go_at_call 72; refine (newOpen_yes _ _ _ _ _ _ _ (hh.alloc _) (by omega) HW.out).mono ?_; rintro e w1 ⟨g, rfl, hg, hblk, hb1⟩; have hcc := (bcell hb1).1; have hs1 : w.heap.size < w1.heap.size := (by have := hb1.size; simp at this; omega))
        have hB := hid (BoolsAt.of_blk hblk)
        clear hblk hcc hw
        go_loop [2, 3, 30] (fun a b z => ∃ k : Nat, k ≤ p ∧ z = .int .i64 k ∧ a = .int .i64 ((bestTo p (opn n h) k).1 : Nat) ∧ b = .int .i64 ((bestTo p (opn n h) k).2 : Nat)) (fun _ _ z => p - (intOf z).toNat)
        case atStart => exact ⟨0, by omega, rfl, rfl, rfl⟩
        case round =>
          obtain ⟨k, hk, rfl, rfl, rfl⟩ := hrel
          by_cases hlt : k < p
          · have hk1 : ((k : Int) + (p : Int) - 1).toNat = k + p - 1 := by omega
            cases hf : opn n h ((k + p - 1) % p)
            · have HF := hid hf
              go_wp2_with (go_at_call 73; refine (at_any _ _ _ _ _ _ hB.out (by omega) (by omega) (by omega)).mono ?_; rintro e w' ⟨rfl, rfl⟩)
              go_loop [8] (fun y => ∃ j : Nat, j < p ∧ y = .int .i64 j ∧ Hid (∀ i, i < j → opn n h ((k + i) % p) = true)) (fun y => p - (intOf y).toNat)
              case atStart => exact ⟨0, by omega, rfl, hid (by omega)⟩
              case round =>
                obtain ⟨j, hj, rfl, HN⟩ := hrel
                have hk2 : ((k : Int) + (j : Int)).toNat = k + j := by omega
                cases hf2 : opn n h ((k + j) % p)
                · have hsp := spanLen_eq hj hf2 HN.out
                  have HS := hid hsp
                  clear hsp
                  by_cases hbig : (bestTo p (opn n h) k).2 < j
                  · have HT := hid (bestTo_take HF.out (by rw [HS.out]; exact hbig))
                    go_wp2_with (go_at_call 73; refine (at_any _ _ _ _ _ _ hB.out (by omega) (by omega) (by omega)).mono ?_; rintro e w' ⟨rfl, rfl⟩)
                    go_round
                    case rel => exact ⟨k + 1, by omega, by go_num, by rw [HT.out], by rw [HT.out, HS.out]⟩
                    case measure => simp [intOf]; omega
                  · have HT := hid (bestTo_leave (p := p) (f := opn n h) (k := k) (by rw [HS.out]; exact hbig))
                    go_wp2_with (go_at_call 73; refine (at_any _ _ _ _ _ _ hB.out (by omega) (by omega) (by omega)).mono ?_; rintro e w' ⟨rfl, rfl⟩)
                    go_round
                    case rel => exact ⟨k + 1, by omega, by go_num, by rw [HT.out], by rw [HT.out]⟩
                    case measure => simp [intOf]; omega
                · have hj2 : j + 1 < p := by
                    rcases Nat.lt_or_ge (j + 1) p with h3 | h3
                    · exact h3
                    · rw [show k + j = k + p - 1 from by omega, HF.out] at hf2; cases hf2
                  have HF2 := hid hf2
                  go_wp2_with (go_at_call 73; refine (at_any _ _ _ _ _ _ hB.out (by omega) (by omega) (by omega)).mono ?_; rintro e w' ⟨rfl, rfl⟩)
                  go_round
                  case rel => exact ⟨j + 1, hj2, by go_num, hid (fun i hi => by (by_cases e : i = j; (subst e; exact HF2.out); exact HN.out i (by omega)))⟩
                  case measure => simp [intOf]; omega
            · have HT := hid (bestTo_skip hf)
              go_wp2_with (go_at_call 73; refine (at_any _ _ _ _ _ _ hB.out (by omega) (by omega) (by omega)).mono ?_; rintro e w' ⟨rfl, rfl⟩)
              go_round
              case rel => exact ⟨k + 1, by omega, by go_num, by rw [HT.out], by rw [HT.out]⟩
              case measure => simp [intOf]; omega
          · obtain rfl : k = p := by omega
            go_wp2
            go_ret3
            exact ⟨rfl, box_trans _ hb1⟩

theorem emod_of_tmod (a n : Int) (hn : 0 < n) : (a.tmod n + n).tmod n = a % n := by
  have h1 : 0 ≤ a.tmod n + n := by have := Int.lt_tmod_of_pos a hn; omega
  rw [Int.tmod_eq_emod_of_nonneg h1, Int.add_emod_right]
  rcases Int.le_total 0 a with h | h
  · rw [Int.tmod_eq_emod_of_nonneg h, Int.emod_emod]
  · have h2 : a.tmod n = a - n * a.tdiv n := by have := Int.tmod_add_mul_tdiv a n; omega
    rw [h2, Int.sub_mul_emod_self_left]
/-- skimmerref05.modulo -/
theorem modulo_any (a n : Int) (w : World) (ha : -1000000000000 ≤ a ∧ a ≤ 1000000000000) (hn : 1 ≤ n ∧ n ≤ 1000000000) :
    Calls Try.prog 75 #[.int .i64 a, .int .i64 n] w fun e w' => e = .returned (.int .i64 (a % n)) ∧ w = w' := by
  obtain ⟨a1, a2⟩ := ha
  obtain ⟨n1, n2⟩ := hn
  have hne : (n == 0) = false := beq_eq_false_iff_ne.2 (by omega)
  have HE := hid (emod_of_tmod a n (by omega))
  have h1 := Int.lt_tmod_of_pos a (show 0 < n by omega)
  have h2 := Int.tmod_lt_of_pos a (show 0 < n by omega)
  by_cases h0 : 0 ≤ a
  · have m1 := Int.emod_nonneg a (b := n) (by omega)
    have m2 := Int.emod_lt_of_pos a (show 0 < n by omega)
    have HM : Hid ((a % n + n) % n = a % n) := by rw [Hid, Int.add_emod_right, Int.emod_emod]
    clear h1 h2 HE
    go_enter Try.func75, Try.ntmps75
    go_wp2
    go_ret
    exact ⟨ret_int (by first | exact HM.out | (simp; done)), rfl⟩
  · have h3 : 0 ≤ a.tmod n + n := by omega
    have HM : Hid ((a.tmod n + n) % n = a % n) := by rw [Hid, ← HE.out, Int.tmod_eq_emod_of_nonneg h3]
    clear HE
    go_enter Try.func75, Try.ntmps75
    go_wp2
    go_ret
    exact ⟨ret_int (by first | exact HM.out | (rw [← Int.add_emod_right]; exact HM.out)), rfl⟩

theorem before_mod (p k : Nat) (hp : 0 < p) : ((k : Int) - 1) % (p : Int) = (((k + p - 1) % p : Nat) : Int) := by
  rw [Int.natCast_emod, show ((k + p - 1 : Nat) : Int) = ((k : Int) - 1) + p from by omega, Int.add_emod_right]
theorem sum_mod (p x y : Nat) : ((x : Int) + (y : Int)) % (p : Int) = (((x + y) % p : Nat) : Int) := by simp

set_option maxHeartbeats 1000000 in
theorem rLongest_any (P : Int) (A : Option Addr) (n c : Nat) (h : Nat → Int) (w : World) (hh : HoursAt w A n h) :
    Calls Try.prog 32 #[.agg #[.int .i64 P, .slice A n c]] w fun e w' => e = .returned (.tuple #[.int .i64 (longOf P n h).1, .int .i64 (longOf P n h).2.1, .int .i64 (longOf P n h).2.2]) ∧ Below w.heap.size w w' := by
  cases hw : winB P n h 3600
  · rw [show longOf P n h = (0, 0, 50) by simp [longOf, hw]]
    go_enter Try.func32, Try.ntmps32
    go_wp2_with (go_at_call 35; refine (rWide_any _ _ _ _ _ _ (hh.alloc _)).mono ?_; rintro e w1 ⟨rfl, hb1⟩)
    go_ret3
    exact ⟨rfl, box_trans _ hb1⟩
  · have hv := (winB_true.1 hw).1
    obtain ⟨p, rfl⟩ := Int.eq_ofNat_of_zero_le (show 0 ≤ P by omega)
    have HW := hid hw
    have hne : ((p : Int) == 0) = false := beq_eq_false_iff_ne.2 (by omega)
    go_enter Try.func32, Try.ntmps32
    go_wp2_with (first
      | (go_at_call 35; refine (rWide_any _ _ _ _ _ _ (hh.alloc _)).mono ?_; rintro e w1 ⟨rfl, hb1⟩; have hcc := (bcell hb1).1; have hs1 : w.heap.size < w1.heap.size := (by have := hb1.size; simp at this; omega))
      | (go_at_call 74; refine (hours_any _ _ _ _ _ 3600 _ ((hh.alloc _).below hb1) (by omega) HW.out).mono ?_; rintro e w2 ⟨g, rfl, hg, hblk, hb2⟩; have hcd := (bcell hb2).1))
    have hk0 : w2.cell? ⟨w.heap.size, 0, none⟩ = some (.int .i64 (p : Int)) := by rw [hcd _ _ hs1, hcc _ _ (by simp)]; exact World.cell?_alloc_new w #[.int .i64 (p : Int), .slice A n c] 40 0
    have hbe := box2 _ hb1 hb2
    have hB := hid (BoolsAt.of_blk hblk)
    clear hcc hcd hblk hw
    go_loop [2, 3, 15] (fun a b z => ∃ k : Nat, k ≤ p ∧ z = .int .i64 k ∧ a = .int .i64 ((bestTo p (opn n h) k).1 : Nat) ∧ b = .int .i64 ((bestTo p (opn n h) k).2 : Nat)) (fun _ _ z => p - (intOf z).toNat)
    case atStart => exact ⟨0, by omega, rfl, rfl, rfl⟩
    case round =>
      obtain ⟨k, hk, rfl, rfl, rfl⟩ := hrel
      by_cases hlt : k < p
      · have hck := hB.out.2 k hlt
        rw [Nat.zero_add] at hck
        have hlz := Nat.mod_lt (k + p - 1) (show 0 < p by omega)
        have hcz := hB.out.2 _ hlz
        rw [Nat.zero_add] at hcz
        have hE := before_mod p k (by omega)
        cases hfk : opn n h k
        · have HT := hid (bestTo_closed hlt hfk)
          rw [hfk] at hck
          clear hfk hE hcz hlz
          go_wp2
          go_round
          case rel => exact ⟨k + 1, by omega, by go_num, by rw [HT.out], by rw [HT.out]⟩
          case measure => simp [intOf]; omega
        · rw [hfk] at hck
          have HFK := hid hfk
          clear hfk
          cases hf : opn n h ((k + p - 1) % p)
          · have HF := hid hf
            rw [hf] at hcz
            clear hf
            generalize (k + p - 1) % p = z at hE hcz hlz
            go_wp2_with (go_at_call 75; refine (modulo_any _ _ _ (by omega) (by omega)).mono ?_; rintro e w' ⟨rfl, rfl⟩)
            clear hE hcz
            go_loop [7] (fun y => ∃ j : Nat, j < p ∧ y = .int .i64 j ∧ Hid (∀ i, i < j → opn n h ((k + i) % p) = true)) (fun y => p - (intOf y).toNat)
            case atStart => exact ⟨0, by omega, rfl, hid (by omega)⟩
            case round =>
              obtain ⟨j, hj, rfl, HN⟩ := hrel
              have hlz2 := Nat.mod_lt (k + j) (show 0 < p by omega)
              have hcz2 := hB.out.2 _ hlz2
              rw [Nat.zero_add] at hcz2
              have hE2 := sum_mod p k j
              cases hf2 : opn n h ((k + j) % p)
              · have HS := hid (spanLen_eq hj hf2 HN.out)
                rw [hf2] at hcz2
                clear hf2
                generalize (k + j) % p = z2 at hE2 hcz2 hlz2
                by_cases hbig : (bestTo p (opn n h) k).2 < j
                · have HT := hid (bestTo_take HF.out (by rw [HS.out]; exact hbig))
                  go_wp2
                  go_round
                  case rel => exact ⟨k + 1, by omega, by go_num, by rw [HT.out], by rw [HT.out, HS.out]⟩
                  case measure => simp [intOf]; omega
                · have HT := hid (bestTo_leave (p := p) (f := opn n h) (k := k) (by rw [HS.out]; exact hbig))
                  go_wp2
                  go_round
                  case rel => exact ⟨k + 1, by omega, by go_num, by rw [HT.out], by rw [HT.out]⟩
                  case measure => simp [intOf]; omega
              · have hj2 : j + 1 < p := by
                  rcases Nat.lt_or_ge (j + 1) p with h3 | h3
                  · exact h3
                  · rw [show k + j = k + p - 1 from by omega, HF.out] at hf2; cases hf2
                have HF2 := hid hf2
                rw [hf2] at hcz2
                clear hf2
                generalize (k + j) % p = z2 at hE2 hcz2 hlz2
                go_wp2
                go_round
                case rel => exact ⟨j + 1, hj2, by go_num, hid (fun i hi => by (by_cases e : i = j; (subst e; exact HF2.out); exact HN.out i (by omega)))⟩
                case measure => simp [intOf]; omega
          · have HT := hid (bestTo_skip hf)
            rw [hf] at hcz
            clear hf
            generalize (k + p - 1) % p = z at hE hcz hlz
            go_wp2_with (go_at_call 75; refine (modulo_any _ _ _ (by omega) (by omega)).mono ?_; rintro e w' ⟨rfl, rfl⟩)
            go_round
            case rel => exact ⟨k + 1, by omega, by go_num, by rw [HT.out], by rw [HT.out]⟩
            case measure => simp [intOf]; omega
      · obtain rfl : k = p := by omega
        by_cases h0 : (bestTo k (opn n h) k).2 = 0
        · have HL := hid (longOf_no HW.out h0)
          have hz : ((((bestTo k (opn n h) k).2 : Nat) : Int) == 0) = true := beq_iff_eq.2 (by omega)
          clear h0
          go_wp2
          go_ret3
          exact ⟨by rw [HL.out]; rfl, hbe⟩
        · have HL := hid (longOf_yes HW.out h0)
          have hz : ((((bestTo k (opn n h) k).2 : Nat) : Int) == 0) = false := beq_eq_false_iff_ne.2 (by omega)
          clear h0
          go_wp2
          go_ret3
          exact ⟨by rw [HL.out]; rfl, hbe⟩

/-! ### the law -/
theorem windowSpans_walk (P : Int) (A : Option Addr) (n c : Nat) (h : Nat → Int) (w : World) (hh : HoursAt w A n h) :
    Calls Try.prog 5 #[.agg #[.int .i64 P, .slice A n c]] w fun e w' => e = .returned (.bool true) ∧ Below w.heap.size w w' := by
  by_cases hl : (4000 : Int) < n
  · go_enter Try.func5, Try.ntmps5
    go_wp2_with (first
      | (go_at_call 30; refine (lWide_any _ _ _ _ _).mono ?_; rintro e w1 ⟨rfl, hb1⟩)
      | (go_at_call 19; refine (awake_any _).mono ?_; rintro e w2 ⟨rfl, hb2⟩))
    go_ret
    exact ⟨rfl, box2 _ hb1 hb2⟩
  · have K := KW.new (P := P) (c := c) hh
    have hk0 := K.c0
    have hk1 := K.c1
    go_enter Try.func5, Try.ntmps5
    go_wp2_with (first
      | (go_at_call 30; refine (lWide_any _ _ _ _ _).mono ?_; rintro e w1 ⟨rfl, hb⟩; have K1 := K.next hb; clear hb hk0 hk1; have hk0 := K1.c0; have hk1 := K1.c1)
      | (go_at_call 31; refine (wLongest_any _ _ _ _ _ _ K1.hrs).mono ?_; rintro e w2 ⟨rfl, hb⟩; have K2 := K1.next hb; clear hb hk0 hk1; have hk0 := K2.c0; have hk1 := K2.c1)
      | (go_at_call 32; refine (rLongest_any _ _ _ _ _ _ K2.hrs).mono ?_; rintro e w3 ⟨rfl, hb⟩; have K3 := K2.next hb; clear hb hk0 hk1)
      | (go_at_call 19; refine (awake_any _).mono ?_; rintro e w4 ⟨rfl, hb⟩))
    go_ret
    exact ⟨rfl, (K3.next hb).bel⟩
end Go.Proofs.Ytfabpkcgdblnbaa
