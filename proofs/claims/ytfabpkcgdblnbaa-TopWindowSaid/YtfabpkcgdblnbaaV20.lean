/-
  The reference's windows that are taken together: taken, First, Number. Conditions: the windows lie in memory.
-/
import Derived.Test.YtfabpkcgdblnbaaV19
namespace Go.Proofs.Ytfabpkcgdblnbaa
set_option linter.unusedVariables false
set_option linter.unusedSimpArgs false
open Go.RowKit

def TakO (w : World) (L : Nat) (f : Nat → Bool) (e : Ending) (w' : World) : Prop := ∃ g, e = .returned (.tuple #[.slice (some ⟨g, 0, none⟩) L L, .int .i64 0]) ∧ BoolsAt w' g 0 L f ∧ Below w.heap.size w w'

theorem allB_zero (p : Nat → Nat) (f : Nat → Nat → Bool) (y : Nat) : allB 0 p f y = true := rfl
theorem allB_succ (k : Nat) (p : Nat → Nat) (f : Nat → Nat → Bool) (y : Nat) : allB (k + 1) p f y = (allB k p f y && f k (y % p k)) := by
  unfold allB anyB
  rw [List.range_succ, List.any_append]
  simp only [List.any_cons, List.any_nil, Bool.or_false, Bool.not_or, shutB, Bool.not_not]

set_option maxHeartbeats 1000000 in
theorem taken_bad (A : Option Addr) (n c : Nat) (P : Nat → Int) (G : Nat → Option Addr) (N C : Nat → Nat) (h : Nat → Nat → Int) (x : Int) (w : World) (H : WinsAt w A n P G N C h) (hbad : anyB n (badW P N h) = true) :
    Calls Try.prog 94 #[.slice A n c, .int .i64 x] w fun e w' => e = .returned (.tuple #[.slice none 0 0, .int .i64 50]) ∧ Below w.heap.size w w' := by
  have HH := hid H
  have HB := hid hbad
  have hn := H.1
  clear H hbad
  go_enter Try.func94, Try.ntmps94
  go_wp2_with fail
  go_loopw [19] (fun z wr => ∃ k : Nat, k ≤ n ∧ z = .int .i64 k ∧ Hid (∀ j, j < k → badW P N h j = false) ∧ Below w.heap.size w wr) (fun z _ => n - (intOf z).toNat)
  case atStart => exact ⟨0, by omega, rfl, hid (by omega), Below.refl _ _⟩
  case round =>
    obtain ⟨k, hk, rfl, HN, hB⟩ := hrel
    by_cases hlt : k < n
    · have HW := hid (HH.out.below hB)
      obtain ⟨_, b, off, hb1, hA, hc⟩ := HW.out
      obtain rfl := hA (by omega)
      obtain ⟨⟨hc0, hc1⟩, hhk⟩ := hc k hlt
      have HK := hid hhk
      clear hc hA hhk
      cases hv : winB (P k) (N k) (h k) 60
      · have HV := hid hv
        clear hv
        go_wp2_with (go_at_call 47; refine (rValid_any _ _ _ _ _ _ (HK.out.alloc _)).mono ?_; rintro e w2 ⟨rfl, hb⟩; rw [HV.out])
        go_ret2
        exact ⟨rfl, btr (hB.alloc hB.size _) hb (by simp; have := hB.size; omega)⟩
      · have HV := hid hv
        clear hv
        go_wp2_with (go_at_call 47; refine (rValid_any _ _ _ _ _ _ (HK.out.alloc _)).mono ?_; rintro e w2 ⟨rfl, hb⟩; rw [HV.out])
        go_roundw
        case rel => exact ⟨k + 1, by omega, by go_num, hid (fun j hj => by (by_cases e : j = k; (subst e; unfold badW; rw [HV.out]; rfl); exact HN.out j (by omega))), btr (hB.alloc hB.size _) hb (by simp; have := hB.size; omega)⟩
        case measure => simp [intOf]; omega
    · obtain rfl : k = n := by omega
      have := HB.out
      rw [anyB_false.2 HN.out] at this
      cases this

set_option maxHeartbeats 1000000 in
theorem taken_arg (A : Option Addr) (n c : Nat) (P : Nat → Int) (G : Nat → Option Addr) (N C : Nat → Nat) (h : Nat → Nat → Int) (x : Int) (w : World) (H : WinsAt w A n P G N C h) (hbad : anyB n (badW P N h) = false)
    (ha : (btw 1 n 4 && btw 0 x 1000000000) = false) :
    Calls Try.prog 94 #[.slice A n c, .int .i64 x] w fun e w' => e = .returned (.tuple #[.slice none 0 0, .int .i64 2]) ∧ Below w.heap.size w w' := by
  have HH := hid H
  have HV := hid (fun i (hi : i < n) => show winB (P i) (N i) (h i) 60 = true by have := anyB_false.1 hbad i hi; unfold badW at this; simpa using this)
  have hn := H.1
  have key : n < 1 ∨ 4 < n ∨ (1 ≤ n ∧ n ≤ 4 ∧ btw 0 x 1000000000 = false) := by
    cases h2 : btw 0 x 1000000000
    · by_cases h3 : n < 1
      · exact .inl h3
      · by_cases h4 : 4 < n
        · exact .inr (.inl h4)
        · exact .inr (.inr ⟨by omega, by omega, rfl⟩)
    · rw [h2, Bool.and_true] at ha
      have := btw_iff'.1 ha
      omega
  have HKEY := hid key
  clear H hbad ha key
  go_enter Try.func94, Try.ntmps94
  go_wp2_with fail
  go_loopw [19] (fun z wr => ∃ k : Nat, k ≤ n ∧ z = .int .i64 k ∧ Below w.heap.size w wr) (fun z _ => n - (intOf z).toNat)
  case atStart => exact ⟨0, by omega, rfl, Below.refl _ _⟩
  case round =>
    obtain ⟨k, hk, rfl, hB⟩ := hrel
    by_cases hlt : k < n
    · have HW := hid (HH.out.below hB)
      obtain ⟨_, b, off, hb1, hA, hc⟩ := HW.out
      obtain rfl := hA (by omega)
      obtain ⟨⟨hc0, hc1⟩, hhk⟩ := hc k hlt
      have HK := hid hhk
      have HVk := hid (HV.out k hlt)
      clear hc hA hhk
      go_wp2_with (go_at_call 47; refine (rValid_any _ _ _ _ _ _ (HK.out.alloc _)).mono ?_; rintro e w2 ⟨rfl, hb⟩; rw [HVk.out])
      go_roundw
      case rel => exact ⟨k + 1, by omega, by go_num, btr (hB.alloc hB.size _) hb (by simp; have := hB.size; omega)⟩
      case measure => simp [intOf]; omega
    · obtain rfl : k = n := by omega
      rcases HKEY.out with h1 | h1 | ⟨h1, h2, h3⟩
      · go_wp2_with (go_at_call 85; refine (rIsHour_any _ _).mono ?_; rintro e w' ⟨rfl, rfl⟩)
        go_ret2
        exact ⟨rfl, hB⟩
      · go_wp2_with (go_at_call 85; refine (rIsHour_any _ _).mono ?_; rintro e w' ⟨rfl, rfl⟩)
        go_ret2
        exact ⟨rfl, hB⟩
      · have H3 := hid h3
        clear h3
        go_wp2_with (go_at_call 85; refine (rIsHour_any _ _).mono ?_; rintro e w' ⟨rfl, rfl⟩; rw [H3.out])
        go_ret2
        exact ⟨rfl, hB⟩

def TakG (w : World) (L : Nat) (f : Nat → Bool) (e : Ending) (w' : World) : Prop :=
  (100000 < L ∧ e = .returned (.tuple #[.slice none 0 0, .int .i64 4]) ∧ Below w.heap.size w w') ∨ (L ≤ 100000 ∧ TakO w L f e w')
theorem tab_true {L k : Nat} (f : Nat → Bool) (h : ∀ j, j < L → f j = (decide (j < k))) : tabA L f = tabA L (fun j => decide (j < k)) := tabA_congr h
set_option maxRecDepth 100000 in
set_option maxHeartbeats 4000000 in
theorem taken_good (A : Option Addr) (n c : Nat) (p : Nat → Nat) (G : Nat → Option Addr) (N C : Nat → Nat) (h : Nat → Nat → Int) (x : Int) (w : World) (H : WinsAt w A n (fun i => (p i : Int)) G N C h)
    (hbad : anyB n (badW (fun i => (p i : Int)) N h) = false) (hn0 : 1 ≤ n ∧ n ≤ 4) (hx : btw 0 x 1000000000 = true) :
    Calls Try.prog 94 #[.slice A n c, .int .i64 x] w (TakG w (lcmN p n) (allB n p (opW N h))) := by
  obtain ⟨hn1, hn2⟩ := hn0
  have HV := hid (fun i (hi : i < n) => show winB (p i) (N i) (h i) 60 = true by have := anyB_false.1 hbad i hi; unfold badW at this; simpa using this)
  have HP := hid (fun i (hi : i < n) => show 1 ≤ p i ∧ p i ≤ 60 by have := (winB_true.1 (HV.out i hi)).1; omega)
  have HH := hid H
  have HX := hid hx
  have hn := H.1
  have hL0 := fun k (hk : k ≤ n) => lcmN_pos (p := p) k fun i hi => (HP.out i (by omega)).1
  have hL1 := fun k (hk : k ≤ n) => lcmN_le (p := p) k fun i hi => HP.out i (by omega)
  have HL := hid (And.intro hL0 hL1)
  clear H hbad hL0 hL1 hx
  go_enter Try.func94, Try.ntmps94
  go_wp2_with fail
  go_loopw [19] (fun z wr => ∃ k : Nat, k ≤ n ∧ z = .int .i64 k ∧ Below w.heap.size w wr) (fun z _ => n - (intOf z).toNat)
  case atStart => exact ⟨0, by omega, rfl, Below.refl _ _⟩
  case round =>
    obtain ⟨k, hk, rfl, hB⟩ := hrel
    by_cases hlt : k < n
    · have HW := hid (HH.out.below hB)
      obtain ⟨_, b, off, hb1, hA, hc⟩ := HW.out
      obtain rfl := hA (by omega)
      obtain ⟨⟨hc0, hc1⟩, hhk⟩ := hc k hlt
      have HK := hid hhk
      have HVk := hid (HV.out k hlt)
      clear hc hA hhk
      go_wp2_with (go_at_call 47; refine (rValid_any _ _ _ _ _ _ (HK.out.alloc _)).mono ?_; rintro e w2 ⟨rfl, hb⟩; rw [HVk.out])
      go_roundw
      case rel => exact ⟨k + 1, by omega, by go_num, btr (hB.alloc hB.size _) hb (by simp; have := hB.size; omega)⟩
      case measure => simp [intOf]; omega
    · obtain rfl : k = n := by omega
      go_wp2_with (go_at_call 85; refine (rIsHour_any _ _).mono ?_; rintro e w' ⟨rfl, rfl⟩; rw [HX.out])
      have HB0 := hid hB
      clear hB
      go_loopw [8, 42] (fun s z wr => ∃ j : Nat, j ≤ k ∧ z = .int .i64 j ∧ s = .int .i64 (lcmN p j : Nat) ∧ Hid (Below w.heap.size w wr)) (fun _ z _ => k - (intOf z).toNat)
      case atStart => exact ⟨0, by omega, rfl, rfl, HB0⟩
      case round =>
        obtain ⟨j, hj, rfl, rfl, HB⟩ := hrel
        have lk1 := HL.out.1 j (by omega)
        by_cases hlt2 : j < k
        · obtain ⟨_, b, off, hb1, hA, hc⟩ := HH.out.below HB.out
          obtain rfl := hA (by omega)
          obtain ⟨⟨hc0, hc1⟩, hhk⟩ := hc j hlt2
          have pk1 := (HP.out j hlt2).1
          have pk2 := (HP.out j hlt2).2
          have lk2 : lcmN p j ≤ 216000 := Nat.le_trans (HL.out.2 j (by omega)) (Nat.le_trans (Nat.pow_le_pow_right (by omega) (show j ≤ 3 by omega)) (by omega))
          have HMUL := hid (show (lcmN p j : Int) * (p j : Int) ≤ 216000 * 60 from Int.mul_le_mul (by omega) (by omega) (by omega) (by omega))
          clear hc hhk hA
          go_wp2_with fail
          refine (multiple_any _ _ _ (by omega) (by omega) (by omega) (by have := HMUL.out; omega) (by omega)).mono ?_
          rintro e w4 ⟨rfl, m, rfl⟩
          rw [lcmI_nat]
          go_wp2
          go_roundw
          case rel => exact ⟨j + 1, by omega, by go_num, rfl, hid (bdn (HB.out.alloc HB.out.size _) _)⟩
          case measure => simp [intOf]; omega
        · obtain rfl : j = k := by omega
          have HLe := hid (HL.out.2 j (by omega))
          have lk2 : lcmN p j ≤ 12960000 := Nat.le_trans HLe.out (Nat.le_trans (Nat.pow_le_pow_right (by omega) (show j ≤ 4 by omega)) (by omega))
          have HDV := hid (fun i (hi : i < j) => lcmN_dvd (p := p) hi)
          clear HL HLe HB0
          generalize lcmN p j = L at *
          by_cases hbig : 100000 < L
          · have hb2 : (100000 : Int) < (L : Int) := by omega
            have HBig := hid hbig
            clear hbig
            go_wp2
            go_ret2
            exact .inl ⟨HBig.out, rfl, HB.out⟩
          · have hb2 : ¬ (100000 : Int) < (L : Int) := by omega
            have hle : L ≤ 100000 := by omega
            clear hbig
            obtain ⟨wo, hwo⟩ : ∃ wo : World, wo = wr := ⟨_, rfl⟩
            subst hwo
            have hmk := run_mkb 81 Try.underlying81 L (by omega)
            have hsz := HB.out.size
            have HM := hid (And.intro (Blk.new wo 4 (tabA L fun _ => false)) (HB.out.alloc HB.out.size (.cells (tabA L fun _ => false) 4)))
            go_wp2_with fail
            go_loopw [57] (fun z wr => ∃ y : Nat, y ≤ L ∧ z = .int .i64 y ∧ Hid (Blk wr wo.heap.size 4 (tabA L fun i => decide (i < y)) ∧ Below w.heap.size w wr)) (fun z _ => L - (intOf z).toNat)
            case atStart => exact ⟨0, by omega, rfl, hid ⟨by simpa using HM.out.1, HM.out.2⟩⟩
            case round =>
              obtain ⟨y, hy, rfl, HY⟩ := hrel
              clear HM hmk
              by_cases hlt3 : y < L
              · have hc := (HY.out.1.cell y).trans (tabA_get _ hlt3)
                have hf := HY.out.1.frozen y
                go_wp2
                go_roundw
                case rel =>
                  refine ⟨y + 1, by omega, by go_num, hid ⟨?_, HY.out.2.setCell (p := ⟨wo.heap.size, y, none⟩) hsz _⟩⟩
                  have := HY.out.1.set_ y (.bool true)
                  rw [tabA_set] at this
                  rwa [tabA_congr (g := fun i => decide (i < y + 1)) (fun i hi => by
                    by_cases e : i = y
                    · subst e; simp
                    · simp only [if_neg e]; exact decide_eq_decide.2 (by omega))] at this
                case measure => simp [intOf]; omega
              · obtain rfl : y = L := by omega
                have HM : Hid (Blk wr wo.heap.size 4 (tabA y (allB 0 p (opW N h))) ∧ Below w.heap.size w wr) := hid ⟨by
                  have := HY.out.1
                  rwa [tabA_congr (g := allB 0 p (opW N h)) (fun i hi => by rw [allB_zero]; simpa using hi)] at this, HY.out.2⟩
                clear HY
                go_wp2_with fail
                go_loopw [66] (fun z wr => ∃ i : Nat, i ≤ j ∧ z = .int .i64 i ∧ Hid (Blk wr wo.heap.size 4 (tabA y (allB i p (opW N h))) ∧ Below w.heap.size w wr)) (fun z _ => j - (intOf z).toNat)
                case atStart => exact ⟨0, by omega, rfl, HM⟩
                case round =>
                  obtain ⟨i, hi, rfl, HI⟩ := hrel
                  clear HM
                  by_cases hlt4 : i < j
                  · obtain ⟨w5, hw5⟩ : ∃ w5 : World, w5 = wr := ⟨_, rfl⟩
                    subst hw5
                    obtain ⟨_, b, off, hb1, hA, hc⟩ := HH.out.below HI.out.2
                    obtain rfl := hA (by omega)
                    obtain ⟨⟨hc0, hc1⟩, hhk⟩ := hc i hlt4
                    have HHK := hid hhk
                    have HWK := hid (HV.out i hlt4)
                    have pk1 := (HP.out i hlt4).1
                    have pk2 := (HP.out i hlt4).2
                    have hne : ((p i : Int) == 0) = false := by simp; omega
                    clear hc hhk hA
                    go_wp2_with fail
                    refine (hours_any (p i) _ _ _ _ 60 _ (HHK.out.alloc _) (by omega) HWK.out).mono ?_
                    rintro e w2 ⟨g2, rfl, hg1, hg2, hg3⟩
                    have szr := HI.out.1.lt
                    have szw := HI.out.2.size
                    have szt := hg3.size
                    simp only [World.size_alloc] at hg1 szt
                    have HM2 : Hid (Blk w2 wo.heap.size 4 (tabA y (fun t => allB i p (opW N h) t && (decide (0 ≤ t) || opW N h i (t % p i)))) ∧ Blk w2 g2 4 (tabA (p i) (opW N h i)) ∧ Blk w2 w5.heap.size 40 #[.int .i64 (p i : Int), .slice (G i) (N i) (C i)] ∧ Below w.heap.size w w2) :=
                      hid ⟨by
                        have := (HI.out.1.alloc (.cells #[.int .i64 (p i : Int), .slice (G i) (N i) (C i)] 40)).below' hg3
                        rwa [tabA_congr (g := fun t => allB i p (opW N h) t && (decide (0 ≤ t) || opW N h i (t % p i))) (fun t ht => by simp)] at this,
                        hg2, (Blk.new w5 40 #[.int .i64 (p i : Int), .slice (G i) (N i) (C i)]).below' hg3, btr (HI.out.2.alloc HI.out.2.size (.cells #[.int .i64 (p i : Int), .slice (G i) (N i) (C i)] 40)) hg3 (by simp; omega)⟩
                    clear hg2 hg3 hc0 hc1
                    go_wp2_with fail
                    go_loopw [74] (fun z wi => ∃ q : Nat, q ≤ y ∧ z = .int .i64 q ∧ Hid (Blk wi wo.heap.size 4 (tabA y (fun t => allB i p (opW N h) t && (decide (q ≤ t) || opW N h i (t % p i)))) ∧ Blk wi g2 4 (tabA (p i) (opW N h i)) ∧ Blk wi w5.heap.size 40 #[.int .i64 (p i : Int), .slice (G i) (N i) (C i)] ∧ Below w.heap.size w wi)) (fun z _ => y - (intOf z).toNat)
                    case atStart => exact ⟨0, by omega, rfl, HM2⟩
                    case round =>
                      obtain ⟨q, hq, rfl, HQ⟩ := hrel
                      clear HM2
                      by_cases hlt5 : q < y
                      · have cA := (HQ.out.1.cell q).trans (tabA_get _ hlt5)
                        have hlm := Nat.mod_lt q (show 0 < p i by omega)
                        have cB := (HQ.out.2.1.cell (q % p i)).trans (tabA_get _ hlm)
                        have cT := HQ.out.2.2.1.cell 0
                        simp only [List.getElem?_toArray, List.getElem?_cons_succ, List.getElem?_cons_zero] at cT
                        rw [show (allB i p (opW N h) q && (decide (q ≤ q) || opW N h i (q % p i))) = allB i p (opW N h) q by simp] at cA
                        have fA := HQ.out.1.frozen q
                        have hlt2 : (q : Int) % (p i : Int) < (p i : Int) := Int.emod_lt_of_pos _ (by omega)
                        have hge2 : 0 ≤ (q : Int) % (p i : Int) := Int.emod_nonneg _ (by omega)
                        have HS := hid fun b => (HQ.out.1.set_ q (.bool b))
                        have e1 : g2 ≠ wo.heap.size := by omega
                        have e2 : w5.heap.size ≠ wo.heap.size := by omega
                        have HS2 := hid fun b => HQ.out.2.1.far (p := ⟨wo.heap.size, q, none⟩) e1 (.bool b)
                        have HS3 := hid fun b => HQ.out.2.2.1.far (p := ⟨wo.heap.size, q, none⟩) e2 (.bool b)
                        have HS4 := hid fun b => HQ.out.2.2.2.setCell (p := ⟨wo.heap.size, q, none⟩) hsz (.bool b)
                        clear e1 e2
                        cases hv : allB i p (opW N h) q
                        · rw [hv] at cA
                          have HVq := hid hv
                          clear hv
                          go_wp2
                          go_roundw
                          case rel =>
                            refine ⟨q + 1, by omega, by go_num, hid ⟨?_, HS2.out _, HS3.out _, HS4.out _⟩⟩
                            have := HS.out false
                            rw [tabA_set] at this
                            rwa [tabA_congr (g := fun t => allB i p (opW N h) t && (decide (q + 1 ≤ t) || opW N h i (t % p i))) (fun t ht => by
                              by_cases e : t = q
                              · subst e; simp [HVq.out]
                              · simp only [if_neg e]
                                rw [show decide (q ≤ t) = decide (q + 1 ≤ t) from decide_eq_decide.2 (by omega)])] at this
                          case measure => simp [intOf]; omega
                        · rw [hv] at cA
                          have HVq := hid hv
                          clear hv
                          go_wp2
                          go_roundw
                          case rel =>
                            refine ⟨q + 1, by omega, by go_num, hid ⟨?_, HS2.out _, HS3.out _, HS4.out _⟩⟩
                            have := HS.out (opW N h i (q % p i))
                            rw [tabA_set] at this
                            rwa [tabA_congr (g := fun t => allB i p (opW N h) t && (decide (q + 1 ≤ t) || opW N h i (t % p i))) (fun t ht => by
                              by_cases e : t = q
                              · subst e
                                have e3 : decide (t + 1 ≤ t) = false := decide_eq_false (by omega)
                                simp only [if_true, HVq.out, e3, Bool.false_or, Bool.true_and]
                              · simp only [if_neg e]
                                rw [show decide (q ≤ t) = decide (q + 1 ≤ t) from decide_eq_decide.2 (by omega)])] at this
                          case measure => simp [intOf]; omega
                      · obtain rfl : q = y := by omega
                        have HF : Hid (Blk wr wo.heap.size 4 (tabA q (allB (i + 1) p (opW N h))) ∧ Below w.heap.size w wr) := hid ⟨by
                          have := HQ.out.1
                          rwa [tabA_congr (g := allB (i + 1) p (opW N h)) (fun t ht => by
                            rw [allB_succ, show decide (q ≤ t) = false from decide_eq_false (by omega), Bool.false_or])] at this, HQ.out.2.2.2⟩
                        go_wp2
                        go_roundw
                        case rel => exact ⟨i + 1, by omega, by go_num, HF⟩
                        case measure => simp [intOf]; omega
                  · obtain rfl : i = j := by omega
                    go_wp2
                    go_ret2
                    exact .inr ⟨hle, wo.heap.size, rfl, BoolsAt.of_blk HI.out.1, HI.out.2⟩
end Go.Proofs.Ytfabpkcgdblnbaa
