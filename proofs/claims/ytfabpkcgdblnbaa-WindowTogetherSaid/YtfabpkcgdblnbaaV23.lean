/-
  The law WindowTogether: it returns true, whatever the input. Conditions: the windows lie in memory.
-/
import Derived.Test.YtfabpkcgdblnbaaV22
namespace Go.Proofs.Ytfabpkcgdblnbaa
set_option linter.unusedVariables false
set_option linter.unusedSimpArgs false
open Go.RowKit

theorem together_many (A : Option Addr) (n c : Nat) (P : Nat → Int) (G : Nat → Option Addr) (N C : Nat → Nat) (h : Nat → Nat → Int) (x k : Int) (w : World) (H : WinsAt w A n P G N C h) (hm : manyB n N = true) :
    Calls Try.prog 15 #[.slice A n c, .int .u32 x, .int .u32 k] w fun e w' => e = .returned (.bool true) ∧ Below w.heap.size w w' := by
  have HH := hid H
  have HM := hid hm
  clear H hm
  go_enter Try.func15, Try.ntmps15
  go_wp2_with (first
    | (go_at_call 55; refine (many_any _ _ _ _ _ _ _ _ _ HH.out).mono ?_; rintro e w1 ⟨rfl, hb1⟩; rw [HM.out])
    | (go_at_call 19; refine (awake_any _).mono ?_; rintro e w2 ⟨rfl, hb2⟩))
  go_ret
  exact ⟨rfl, btr hb1 hb2 hb1.size⟩
set_option maxHeartbeats 1000000 in
set_option maxRecDepth 100000 in
theorem together_err (A : Option Addr) (n c : Nat) (P : Nat → Int) (G : Nat → Option Addr) (N C : Nat → Nat) (h : Nat → Nat → Int) (x : Nat) (k : Int) (w : World) (H : WinsAt w A n P G N C h) (hm : manyB n N = false) (hx : (x : Int) ≤ 4294967295)
    (hz : codeW P n N h true ≠ 0) :
    Calls Try.prog 15 #[.slice A n c, .int .u32 (x : Int), .int .u32 k] w fun e w' => e = .returned (.bool true) ∧ Below w.heap.size w w' := by
  have K : KWs w w A n P G N C h := ⟨Below.refl _ _, H⟩
  have HM := hid hm
  have hE : (x : Int) % 900000000 = ((x % 900000000 : Nat) : Int) := rfl
  have hlt := Nat.mod_lt x (show 0 < 900000000 by omega)
  generalize x % 900000000 = y at *
  have hb := btw_true (a := 0) (n := (y : Int)) (b := 1000000000) (by omega) (by omega)
  have HN := hid (show numOf P n N h = (0, 0, codeW P n N h true) by unfold numOf; rw [if_neg hz])
  have HF := hid (show firstOf P n N h y = (0, codeW P n N h true) by have := @firstOf_err P n N h (y : Int) (by rw [hb]; exact hz); rw [hb] at this; exact this)
  have hz1 : (codeW P n N h true != 0) = true := by simpa using hz
  clear H hm hz hb
  generalize codeW P n N h true = z at *
  go_enter Try.func15, Try.ntmps15
  go_wp2_with (first
    | (go_at_call 55; refine (many_any _ _ _ _ _ _ _ _ _ K.wins).mono ?_; rintro e w1 ⟨rfl, hb⟩; rw [HM.out]; replace K := K.next hb; clear hb)
    | (go_at_call 51; refine (wNumber_any _ _ _ _ _ _ _ _ _ K.wins).mono ?_; rintro e w4 ⟨rfl, hb⟩; rw [HN.out]; replace K := K.next hb; clear hb)
    | (go_at_call 50; refine (wFirst_any _ _ _ _ _ _ _ _ _ _ K.wins).mono ?_; rintro e w2 ⟨rfl, hb⟩; rw [HF.out]; replace K := K.next hb; clear hb)
    | (go_at_call 19; refine (awake_any _).mono ?_; rintro e w6 ⟨rfl, hb⟩; replace K := K.next hb; clear hb))
  go_ret
  exact ⟨rfl, K.bel⟩
set_option maxHeartbeats 1000000 in
set_option maxRecDepth 100000 in
theorem together_none (A : Option Addr) (n c : Nat) (P : Nat → Int) (G : Nat → Option Addr) (N C : Nat → Nat) (h : Nat → Nat → Int) (x : Nat) (k : Int) (w : World) (H : WinsAt w A n P G N C h) (hm : manyB n N = false) (hx : (x : Int) ≤ 4294967295)
    (hz : codeW P n N h true = 0) (hc : cnt (lcmN (perW P) n) (allB n (perW P) (opW N h)) = 0) :
    Calls Try.prog 15 #[.slice A n c, .int .u32 (x : Int), .int .u32 k] w fun e w' => e = .returned (.bool true) ∧ Below w.heap.size w w' := by
  have K : KWs w w A n P G N C h := ⟨Below.refl _ _, H⟩
  have HM := hid hm
  have hE : (x : Int) % 900000000 = ((x % 900000000 : Nat) : Int) := rfl
  have hlt := Nat.mod_lt x (show 0 < 900000000 by omega)
  generalize x % 900000000 = y at *
  have HN := hid (show numOf P n N h = (0, ((lcmN (perW P) n : Nat) : Int), 0) by unfold numOf; rw [if_pos hz, hc]; rfl)
  have HF := hid (first_none hz hc y (by omega))
  clear H hm hz hc
  generalize lcmN (perW P) n = L at *
  go_enter Try.func15, Try.ntmps15
  go_wp2_with (first
    | (go_at_call 55; refine (many_any _ _ _ _ _ _ _ _ _ K.wins).mono ?_; rintro e w1 ⟨rfl, hb⟩; rw [HM.out]; replace K := K.next hb; clear hb)
    | (go_at_call 51; refine (wNumber_any _ _ _ _ _ _ _ _ _ K.wins).mono ?_; rintro e w4 ⟨rfl, hb⟩; rw [HN.out]; replace K := K.next hb; clear hb)
    | (go_at_call 50; refine (wFirst_any _ _ _ _ _ _ _ _ _ _ K.wins).mono ?_; rintro e w2 ⟨rfl, hb⟩; rw [HF.out]; replace K := K.next hb; clear hb)
    | (go_at_call 19; refine (awake_any _).mono ?_; rintro e w6 ⟨rfl, hb⟩; replace K := K.next hb; clear hb))
  go_ret
  exact ⟨rfl, K.bel⟩

theorem every_is (A : Option Addr) (n c : Nat) (P : Nat → Int) (G : Nat → Option Addr) (N C : Nat → Nat) (h : Nat → Nat → Int) (x : Int) (b : Bool) (w : World) (H : WinsAt w A n P G N C h)
    (hz : codeW P n N h true = 0) (hx : 0 ≤ x ∧ x ≤ 1000000000) (hb : allB n (perW P) (opW N h) x.toNat = b) :
    Calls Try.prog 59 #[.slice A n c, .int .i64 x] w fun e w' => e = .returned (.bool b) ∧ Below w.heap.size w w' := by
  obtain ⟨y, rfl⟩ := Int.eq_ofNat_of_zero_le hx.1
  obtain ⟨h1, _, _, _, h5⟩ := codeW_zero hz
  have := every_any A n c (perW P) G N C h y w (H.congr fun i hi => perW_eq h1 hi) (fun i hi => by rw [← perW_eq h1 hi]; exact h5 i hi) hx.2
  rw [show allB n (perW P) (opW N h) y = b from hb] at this
  exact this
set_option maxHeartbeats 4000000 in
set_option maxRecDepth 100000 in
theorem together_some (A : Option Addr) (n c : Nat) (P : Nat → Int) (G : Nat → Option Addr) (N C : Nat → Nat) (h : Nat → Nat → Int) (x k : Nat) (w : World) (H : WinsAt w A n P G N C h) (hm : manyB n N = false) (hx : (x : Int) ≤ 4294967295) (hk : (k : Int) ≤ 4294967295)
    (hz : codeW P n N h true = 0) (hc : cnt (lcmN (perW P) n) (allB n (perW P) (opW N h)) ≠ 0) :
    Calls Try.prog 15 #[.slice A n c, .int .u32 (x : Int), .int .u32 (k : Int)] w fun e w' => e = .returned (.bool true) ∧ Below w.heap.size w w' := by
  have K : KWs w w A n P G N C h := ⟨Below.refl _ _, H⟩
  have HM := hid hm
  have hE : (x : Int) % 900000000 = ((x % 900000000 : Nat) : Int) := rfl
  have hlt := Nat.mod_lt x (show 0 < 900000000 by omega)
  generalize x % 900000000 = y at *
  have HN := hid (show numOf P n N h = (((cnt (lcmN (perW P) n) (allB n (perW P) (opW N h)) : Nat) : Int), ((lcmN (perW P) n : Nat) : Int), 0) by unfold numOf; rw [if_pos hz])
  obtain ⟨f, hf, f1, f2, f3, f4⟩ := first_ex hz hc y (by omega)
  have HF := hid hf
  have HF3 := hid f3
  have HF4 := hid f4
  have HX := hid (fun a ha => first_ex hz hc a ha)
  have HEv := hid (fun W x b hW hx hb => every_is A n c P G N C h x b W hW hz hx hb)
  have h100 := (codeW_zero hz).2.2.2.1
  have hcle := cnt_le (lcmN (perW P) n) (allB n (perW P) (opW N h))
  have HMono := hid (fun a (ha : a ≤ lcmN (perW P) n) => cnt_mono (f := allB n (perW P) (opW N h)) ha)
  clear H hm hz hf f3 f4
  generalize hT : cnt (lcmN (perW P) n) (allB n (perW P) (opW N h)) = T at *
  have HT := hid hT
  clear hT
  generalize lcmN (perW P) n = L at *
  have hT1 : 1 ≤ T := by omega
  clear hc
  have hD1 : decide ((T : Int) < 1) = false := decide_eq_false (by omega)
  have hD2 : decide (L < T) = false := decide_eq_false (by omega)
  have hD3 : decide (f < y) = false := decide_eq_false (by omega)
  have hD4 : decide ((y : Int) + (L : Int) ≤ (f : Int)) = false := decide_eq_false (by omega)
  by_cases hyf : y < f
  · have hd : 0 < (f : Int) - (y : Int) := by omega
    have hm1 := Int.emod_nonneg (k : Int) (b := (f : Int) - (y : Int)) (by omega)
    have hm2 := Int.emod_lt_of_pos (k : Int) hd
    go_enter Try.func15, Try.ntmps15
    go_wp2_with (first
      | (go_at_call 55; refine (many_any _ _ _ _ _ _ _ _ _ K.wins).mono ?_; rintro e w1 ⟨rfl, hb⟩; rw [HM.out]; replace K := K.next hb; clear hb)
      | (go_at_call 51; refine (wNumber_any _ _ _ _ _ _ _ _ _ K.wins).mono ?_; rintro e w4 ⟨rfl, hb⟩; rw [HN.out]; replace K := K.next hb; clear hb)
      | (go_at_call 50; refine (wFirst_any _ _ _ _ _ _ _ _ _ _ K.wins).mono ?_; rintro e w2 ⟨rfl, hb⟩; rw [HF.out]; replace K := K.next hb; clear hb))
    refine (HEv.out _ (f : Int) true K.wins (by omega) (by simpa using HF3.out)).mono ?_
    rintro e w7 ⟨rfl, hb⟩
    replace K := K.next hb
    clear hb
    go_wp2_with fail
    have hq : allB n (perW P) (opW N h) ((y : Int) + (k : Int) % ((f : Int) - (y : Int))).toNat = false := HF4.out _ (by omega) (by omega)
    refine (HEv.out _ ((y : Int) + (k : Int) % ((f : Int) - (y : Int))) false K.wins (by omega) hq).mono ?_
    rintro e w8 ⟨rfl, hb⟩
    replace K := K.next hb
    clear hb hq
    by_cases h60 : 60 < T
    · have h60' : (60 : Int) < (T : Int) := by omega
      clear h60
      go_wp2_with (go_at_call 19; refine (awake_any _).mono ?_; rintro e w6 ⟨rfl, hb⟩; replace K := K.next hb; clear hb)
      go_ret
      exact ⟨rfl, K.bel⟩
    · have h60' : ¬ (60 : Int) < (T : Int) := by omega
      clear h60
      have HK := hid K
      clear K
      go_wp2_with fail
      go_loopw [13, 14] (fun s z wr => ∃ a : Nat, a ≤ L ∧ z = .int .i64 (a : Int) ∧ s = .int .i64 (cnt a (allB n (perW P) (opW N h)) : Nat) ∧ Hid (KWs w wr A n P G N C h)) (fun _ z _ => L - (intOf z).toNat)
      case atStart => exact ⟨0, by omega, rfl, rfl, HK⟩
      case round =>
        obtain ⟨a, ha, rfl, rfl, HKr⟩ := hrel
        clear HK
        have hca := HMono.out a ha
        generalize hcae : cnt a (allB n (perW P) (opW N h)) = ca at *
        have HCA := hid hcae
        clear hcae
        by_cases hlt : a < L
        · obtain ⟨q, hq, q1, q2, q3, q4⟩ := HX.out a (by omega)
          have HQ := hid hq
          clear hq
          go_wp2_with fail
          refine (wFirst_any _ _ _ _ _ _ _ _ _ _ HKr.out.wins).mono ?_
          rintro e w2 ⟨rfl, hb⟩
          rw [HQ.out]
          have HK2 := hid (HKr.out.next hb)
          clear hb
          have HQ3 := hid q3
          have HQ4 := hid q4
          clear q3 q4
          by_cases hqL : L ≤ q
          · have hqL' : (L : Int) ≤ (q : Int) := by omega
            have HFl := hid (show cnt L (allB n (perW P) (opW N h)) = cnt a (allB n (perW P) (opW N h)) from cnt_flat ha fun j h1 h2 => HQ4.out j h1 (by omega))
            obtain rfl : ca = T := by have := HFl.out; rw [HCA.out, HT.out] at this; exact this.symm
            clear hqL
            go_wp2_with (go_at_call 19; refine (awake_any _).mono ?_; rintro e w6 ⟨rfl, hb⟩; have K6 := HK2.out.next hb; clear hb)
            go_ret
            exact ⟨rfl, K6.bel⟩
          · have hqL' : ¬ (L : Int) ≤ (q : Int) := by omega
            have HFl := hid (show cnt (q + 1) (allB n (perW P) (opW N h)) = cnt a (allB n (perW P) (opW N h)) + 1 by
              rw [cnt_succ, HQ3.out, cnt_flat q1 HQ4.out]; rfl)
            go_wp2_with fail
            go_roundw
            case rel => exact ⟨q + 1, by omega, by go_num, by rw [HFl.out, HCA.out]; go_num, HK2⟩
            case measure => simp [intOf]; omega
        · obtain rfl : a = L := by omega
          obtain rfl : ca = T := by have := HCA.out; rw [HT.out] at this; exact this.symm
          go_wp2_with (go_at_call 19; refine (awake_any _).mono ?_; rintro e w6 ⟨rfl, hb⟩; have K6 := HKr.out.next hb; clear hb)
          go_ret
          exact ⟨rfl, K6.bel⟩
  · obtain rfl : f = y := by omega
    have hyf2 : decide (f < f) = false := decide_eq_false (by omega)
    clear hyf
    go_enter Try.func15, Try.ntmps15
    go_wp2_with (first
      | (go_at_call 55; refine (many_any _ _ _ _ _ _ _ _ _ K.wins).mono ?_; rintro e w1 ⟨rfl, hb⟩; rw [HM.out]; replace K := K.next hb; clear hb)
      | (go_at_call 51; refine (wNumber_any _ _ _ _ _ _ _ _ _ K.wins).mono ?_; rintro e w4 ⟨rfl, hb⟩; rw [HN.out]; replace K := K.next hb; clear hb)
      | (go_at_call 50; refine (wFirst_any _ _ _ _ _ _ _ _ _ _ K.wins).mono ?_; rintro e w2 ⟨rfl, hb⟩; rw [HF.out]; replace K := K.next hb; clear hb))
    refine (HEv.out _ (f : Int) true K.wins (by omega) (by simpa using HF3.out)).mono ?_
    rintro e w7 ⟨rfl, hb⟩
    replace K := K.next hb
    clear hb
    by_cases h60 : 60 < T
    · have h60' : (60 : Int) < (T : Int) := by omega
      clear h60
      go_wp2_with (go_at_call 19; refine (awake_any _).mono ?_; rintro e w6 ⟨rfl, hb⟩; replace K := K.next hb; clear hb)
      go_ret
      exact ⟨rfl, K.bel⟩
    · have h60' : ¬ (60 : Int) < (T : Int) := by omega
      clear h60
      have HK := hid K
      clear K
      go_wp2_with fail
      go_loopw [13, 14] (fun s z wr => ∃ a : Nat, a ≤ L ∧ z = .int .i64 (a : Int) ∧ s = .int .i64 (cnt a (allB n (perW P) (opW N h)) : Nat) ∧ Hid (KWs w wr A n P G N C h)) (fun _ z _ => L - (intOf z).toNat)
      case atStart => exact ⟨0, by omega, rfl, rfl, HK⟩
      case round =>
        obtain ⟨a, ha, rfl, rfl, HKr⟩ := hrel
        clear HK
        have hca := HMono.out a ha
        generalize hcae : cnt a (allB n (perW P) (opW N h)) = ca at *
        have HCA := hid hcae
        clear hcae
        by_cases hlt : a < L
        · obtain ⟨q, hq, q1, q2, q3, q4⟩ := HX.out a (by omega)
          have HQ := hid hq
          clear hq
          go_wp2_with fail
          refine (wFirst_any _ _ _ _ _ _ _ _ _ _ HKr.out.wins).mono ?_
          rintro e w2 ⟨rfl, hb⟩
          rw [HQ.out]
          have HK2 := hid (HKr.out.next hb)
          clear hb
          have HQ3 := hid q3
          have HQ4 := hid q4
          clear q3 q4
          by_cases hqL : L ≤ q
          · have hqL' : (L : Int) ≤ (q : Int) := by omega
            have HFl := hid (show cnt L (allB n (perW P) (opW N h)) = cnt a (allB n (perW P) (opW N h)) from cnt_flat ha fun j h1 h2 => HQ4.out j h1 (by omega))
            obtain rfl : ca = T := by have := HFl.out; rw [HCA.out, HT.out] at this; exact this.symm
            clear hqL
            go_wp2_with (go_at_call 19; refine (awake_any _).mono ?_; rintro e w6 ⟨rfl, hb⟩; have K6 := HK2.out.next hb; clear hb)
            go_ret
            exact ⟨rfl, K6.bel⟩
          · have hqL' : ¬ (L : Int) ≤ (q : Int) := by omega
            have HFl := hid (show cnt (q + 1) (allB n (perW P) (opW N h)) = cnt a (allB n (perW P) (opW N h)) + 1 by
              rw [cnt_succ, HQ3.out, cnt_flat q1 HQ4.out]; rfl)
            go_wp2_with fail
            go_roundw
            case rel => exact ⟨q + 1, by omega, by go_num, by rw [HFl.out, HCA.out]; go_num, HK2⟩
            case measure => simp [intOf]; omega
        · obtain rfl : a = L := by omega
          obtain rfl : ca = T := by have := HCA.out; rw [HT.out] at this; exact this.symm
          go_wp2_with (go_at_call 19; refine (awake_any _).mono ?_; rintro e w6 ⟨rfl, hb⟩; have K6 := HKr.out.next hb; clear hb)
          go_ret
          exact ⟨rfl, K6.bel⟩

theorem windowTogether_walk (A : Option Addr) (n c : Nat) (P : Nat → Int) (G : Nat → Option Addr) (N C : Nat → Nat) (h : Nat → Nat → Int) (x k : Int) (w : World) (H : WinsAt w A n P G N C h) (hx : (Lit.int .u32 x).wf = true) (hk : (Lit.int .u32 k).wf = true) :
    Calls Try.prog 15 #[.slice A n c, .int .u32 x, .int .u32 k] w fun e w' => e = .returned (.bool true) ∧ Below w.heap.size w w' := by
  have hx' : 0 ≤ x ∧ x ≤ 4294967295 := by simp [Lit.wf, IntKind.min, IntKind.max, IntKind.bits, IntKind.signed] at hx; omega
  have hk' : 0 ≤ k ∧ k ≤ 4294967295 := by simp [Lit.wf, IntKind.min, IntKind.max, IntKind.bits, IntKind.signed] at hk; omega
  obtain ⟨x, rfl⟩ := Int.eq_ofNat_of_zero_le hx'.1
  obtain ⟨k, rfl⟩ := Int.eq_ofNat_of_zero_le hk'.1
  cases hm : manyB n N
  · by_cases hz : codeW P n N h true = 0
    · by_cases hc : cnt (lcmN (perW P) n) (allB n (perW P) (opW N h)) = 0
      · exact together_none A n c P G N C h x k w H hm hx'.2 hz hc
      · exact together_some A n c P G N C h x k w H hm hx'.2 hk'.2 hz hc
    · exact together_err A n c P G N C h x k w H hm hx'.2 hz
  · exact together_many A n c P G N C h x k w H hm
end Go.Proofs.Ytfabpkcgdblnbaa
