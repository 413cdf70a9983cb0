/-
  First and Number of the reference; the law WindowFirsts. Conditions: the windows lie in memory.
-/
import Derived.Test.YtfabpkcgdblnbaaV20
import Derived.Test.YtfabpkcgdblnbaaR6
namespace Go.Proofs.Ytfabpkcgdblnbaa
set_option linter.unusedVariables false
set_option linter.unusedSimpArgs false
open Go.RowKit

theorem allB_mod {n : Nat} {p : Nat → Nat} {f : Nat → Nat → Bool} {L : Nat} (h : ∀ i, i < n → p i ∣ L) (y : Nat) : allB n p f (y % L) = allB n p f y := by
  induction n with
  | zero => rfl
  | succ n ih => rw [allB_succ, allB_succ, ih (fun i hi => h i (by omega)), Nat.mod_mod_of_dvd y (h n (by omega))]
theorem taken_err (A : Option Addr) (n c : Nat) (P : Nat → Int) (G : Nat → Option Addr) (N C : Nat → Nat) (h : Nat → Nat → Int) (x : Int) (w : World) (H : WinsAt w A n P G N C h) (hz : codeW P n N h (btw 0 x 1000000000) ≠ 0) :
    Calls Try.prog 94 #[.slice A n c, .int .i64 x] w fun e w' => e = .returned (.tuple #[.slice none 0 0, .int .i64 (codeW P n N h (btw 0 x 1000000000))]) ∧ Below w.heap.size w w' := by
  generalize hr : btw 0 x 1000000000 = r at *
  cases h1 : anyB n (badW P N h)
  · cases h2 : (btw 1 n 4 && r)
    · rw [show codeW P n N h r = 2 by unfold codeW; rw [if_neg (by rw [h1]; simp), if_pos (by rw [h2]; rfl)]]
      exact taken_arg A n c P G N C h x w H h1 (by rw [hr]; exact h2)
    · have h3 : 100000 < lcmN (perW P) n := by
        rcases Nat.lt_or_ge 100000 (lcmN (perW P) n) with h3 | h3
        · exact h3
        · exact absurd (show codeW P n N h r = 0 by unfold codeW; rw [if_neg (by rw [h1]; simp), if_neg (by rw [h2]; simp), if_neg (by omega)]) hz
      rw [show codeW P n N h r = 4 by unfold codeW; rw [if_neg (by rw [h1]; simp), if_neg (by rw [h2]; simp), if_pos h3]]
      rw [Bool.and_eq_true, btw_iff] at h2
      obtain ⟨h2, rfl⟩ := h2
      refine (taken_good A n c (perW P) G N C h x w (H.congr fun i hi => perW_eq h1 hi) (badW_congr (fun i hi => perW_eq h1 hi) h1) (by omega) hr).mono fun e w' ht => ?_
      rcases ht with ⟨_, he, hb⟩ | ⟨hle, _⟩
      · exact ⟨he, hb⟩
      · omega
  · rw [show codeW P n N h r = 50 by unfold codeW; rw [if_pos h1]]
    exact taken_bad A n c P G N C h x w H h1
theorem taken_ok (A : Option Addr) (n c : Nat) (P : Nat → Int) (G : Nat → Option Addr) (N C : Nat → Nat) (h : Nat → Nat → Int) (x : Int) (w : World) (H : WinsAt w A n P G N C h) (hz : codeW P n N h (btw 0 x 1000000000) = 0) :
    Calls Try.prog 94 #[.slice A n c, .int .i64 x] w (TakO w (lcmN (perW P) n) (allB n (perW P) (opW N h))) := by
  obtain ⟨h1, h2, hx, h3, _⟩ := codeW_zero hz
  refine (taken_good A n c (perW P) G N C h x w (H.congr fun i hi => perW_eq h1 hi) (badW_congr (fun i hi => perW_eq h1 hi) h1) h2 hx).mono fun e w' ht => ?_
  rcases ht with ⟨h4, _, _⟩ | ⟨_, ht⟩
  · omega
  · exact ht
theorem codeW_per {P : Nat → Int} {n : Nat} {N : Nat → Nat} {h : Nat → Nat → Int} {r : Bool} (hz : codeW P n N h r = 0) : ∀ i, i < n → 1 ≤ perW P i ∧ perW P i ≤ 60 := by
  intro i hi
  have := (winB_true.1 ((codeW_zero hz).2.2.2.2 i hi)).1
  unfold perW; omega

set_option maxHeartbeats 1000000 in
theorem rFirst_any (A : Option Addr) (n c : Nat) (P : Nat → Int) (G : Nat → Option Addr) (N C : Nat → Nat) (h : Nat → Nat → Int) (x : Int) (w : World) (H : WinsAt w A n P G N C h) :
    Calls Try.prog 56 #[.slice A n c, .int .i64 x] w fun e w' => e = .returned (.tuple #[.int .i64 (firstOf P n N h x).1, .int .i64 (firstOf P n N h x).2]) ∧ Below w.heap.size w w' := by
  by_cases hz : codeW P n N h (btw 0 x 1000000000) = 0
  · obtain ⟨h1, h2, hx, h3, _⟩ := codeW_zero hz
    have hx0 := btw_iff.1 hx
    obtain ⟨y, rfl⟩ := Int.eq_ofNat_of_zero_le hx0.1
    have HS := hid (taken_ok A n c P G N C h y w H hz)
    have hL := lcmN_pos (p := perW P) n fun i hi => (codeW_per hz i hi).1
    have HM := hid (fun z => allB_mod (f := opW N h) (fun i hi => lcmN_dvd (p := perW P) (n := n) hi) z)
    have HY := hid (fun z => @firstOf_hit P n N h y z hz)
    have HN := hid (@firstOf_no P n N h y hz)
    clear H hz hx h1
    generalize lcmN (perW P) n = L at *
    have hne : ((L : Int) == 0) = false := by simp; omega
    go_enter Try.func56, Try.ntmps56
    go_wp2_with fail
    refine HS.out.mono ?_
    rintro e w1 ⟨g, rfl, hB, hb1⟩
    have HB := hid hB
    have HBel := hid hb1
    clear hB hb1 HS
    go_wp2_with fail
    go_loop [20] (fun i => ∃ k : Nat, k ≤ L ∧ i = .int .i64 k ∧ Hid (∀ j, y ≤ j → j < y + k → allB n (perW P) (opW N h) j = false)) (fun i => L - (intOf i).toNat)
    case atStart => exact ⟨0, by omega, rfl, hid (by omega)⟩
    case round =>
      obtain ⟨k, hk, rfl, HNo⟩ := hrel
      by_cases hlt : k < L
      · have hlm := Nat.mod_lt (y + k) (show 0 < L by omega)
        have hE : ((y : Int) + (k : Int)) % (L : Int) = (((y + k) % L : Nat) : Int) := by simp
        have hc := HB.out.2 _ hlm
        rw [Nat.zero_add, HM.out] at hc
        cases hf : allB n (perW P) (opW N h) (y + k)
        · have HF := hid hf
          rw [hf] at hc
          clear hf
          generalize (y + k) % L = z at hE hc hlm
          go_wp2
          go_round
          case rel => exact ⟨k + 1, by omega, by go_num, hid (fun j h1 h2 => by (by_cases e : j = y + k; (subst e; exact HF.out); exact HNo.out j h1 (by omega)))⟩
          case measure => simp [intOf]; omega
        · have HF := hid (HY.out (y + k) (by omega) (by omega) hf HNo.out)
          rw [hf] at hc
          clear hf
          generalize (y + k) % L = z at hE hc hlm
          go_wp2
          go_ret2
          exact ⟨by rw [HF.out]; rfl, HBel.out⟩
      · have HF := hid (HN.out fun j h1 h2 => HNo.out j h1 (by omega))
        go_wp2
        go_ret2
        exact ⟨by rw [HF.out]; rfl, HBel.out⟩
  · have HE := hid (firstOf_err hz)
    have hz1 : (codeW P n N h (btw 0 x 1000000000) != 0) = true := by simpa using hz
    have HS := hid (taken_err A n c P G N C h x w H hz)
    clear hz H
    generalize codeW P n N h (btw 0 x 1000000000) = z at *
    go_enter Try.func56, Try.ntmps56
    go_wp2_with (go_at_call 94; refine HS.out.mono ?_; rintro e w1 ⟨rfl, hb1⟩)
    go_ret2
    exact ⟨by rw [HE.out]; rfl, hb1⟩
set_option maxHeartbeats 1000000 in
theorem rNumber_any (A : Option Addr) (n c : Nat) (P : Nat → Int) (G : Nat → Option Addr) (N C : Nat → Nat) (h : Nat → Nat → Int) (w : World) (H : WinsAt w A n P G N C h) :
    Calls Try.prog 57 #[.slice A n c] w fun e w' => e = .returned (.tuple #[.int .i64 (numOf P n N h).1, .int .i64 (numOf P n N h).2.1, .int .i64 (numOf P n N h).2.2]) ∧ Below w.heap.size w w' := by
  have h0 : btw 0 0 1000000000 = true := by decide
  by_cases hz : codeW P n N h true = 0
  · obtain ⟨h1, h2, hx, h3, _⟩ := codeW_zero hz
    have HE := hid (show numOf P n N h = (((cnt (lcmN (perW P) n) (allB n (perW P) (opW N h)) : Nat) : Int), ((lcmN (perW P) n : Nat) : Int), 0) by unfold numOf; rw [if_pos hz])
    have HS := hid (taken_ok A n c P G N C h 0 w H (by rw [h0]; exact hz))
    clear H hz hx h1 h0
    generalize lcmN (perW P) n = L at *
    go_enter Try.func57, Try.ntmps57
    go_wp2_with fail
    refine HS.out.mono ?_
    rintro e w1 ⟨g, rfl, hB, hb1⟩
    have HB := hid hB
    have HBel := hid hb1
    clear hB hb1 HS
    go_wp2_with fail
    go_loop [7, 20] (fun s z => ∃ k : Nat, k ≤ L ∧ z = .int .i64 (k : Int) ∧ s = .int .i64 (cnt k (allB n (perW P) (opW N h)) : Nat)) (fun _ z => L - (intOf z).toNat)
    case atStart => exact ⟨0, by omega, rfl, rfl⟩
    case round =>
      obtain ⟨k, hk2, rfl, rfl⟩ := hrel
      have hcl := cnt_le k (allB n (perW P) (opW N h))
      by_cases hlt : k < L
      · have hc := HB.out.2 _ hlt
        rw [Nat.zero_add] at hc
        cases hv : allB n (perW P) (opW N h) k
        · have HC := hid (show cnt (k + 1) (allB n (perW P) (opW N h)) = cnt k (allB n (perW P) (opW N h)) by rw [cnt_succ, hv]; rfl)
          rw [hv] at hc
          clear hv
          go_wp2
          go_round
          case rel => exact ⟨k + 1, by omega, by go_num, by rw [HC.out]⟩
          case measure => simp [intOf]; omega
        · have HC := hid (show cnt (k + 1) (allB n (perW P) (opW N h)) = cnt k (allB n (perW P) (opW N h)) + 1 by rw [cnt_succ, hv]; rfl)
          rw [hv] at hc
          clear hv
          go_wp2
          go_round
          case rel => exact ⟨k + 1, by omega, by go_num, by rw [HC.out]; go_num⟩
          case measure => simp [intOf]; omega
      · obtain rfl : k = L := by omega
        go_wp2
        go_ret3
        exact ⟨by rw [HE.out]; rfl, HBel.out⟩
  · have HE := hid (show numOf P n N h = (0, 0, codeW P n N h true) by unfold numOf; rw [if_neg hz])
    have hz1 : (codeW P n N h true != 0) = true := by simpa using hz
    have HS := hid (taken_err A n c P G N C h 0 w H (by rw [h0]; exact hz))
    rw [h0] at HS
    clear hz H
    generalize codeW P n N h true = z at *
    go_enter Try.func57, Try.ntmps57
    go_wp2_with (go_at_call 94; refine HS.out.mono ?_; rintro e w1 ⟨rfl, hb1⟩)
    go_ret3
    exact ⟨by rw [HE.out]; rfl, hb1⟩

/-! ### the law WindowFirsts -/
structure KWs (w0 w : World) (A : Option Addr) (n : Nat) (P : Nat → Int) (G : Nat → Option Addr) (N C : Nat → Nat) (h : Nat → Nat → Int) : Prop where
  bel : Below w0.heap.size w0 w
  wins : WinsAt w A n P G N C h
theorem KWs.next {w0 w w' : World} {A : Option Addr} {n : Nat} {P : Nat → Int} {G : Nat → Option Addr} {N C : Nat → Nat} {h : Nat → Nat → Int} (K : KWs w0 w A n P G N C h) (hb : Below w.heap.size w w') : KWs w0 w' A n P G N C h :=
  ⟨btr K.bel hb K.bel.size, K.wins.below hb⟩
theorem firsts_many (A : Option Addr) (n c : Nat) (P : Nat → Int) (G : Nat → Option Addr) (N C : Nat → Nat) (h : Nat → Nat → Int) (x : Int) (w : World) (H : WinsAt w A n P G N C h) (hm : manyB n N = true) :
    Calls Try.prog 13 #[.slice A n c, .int .i64 x] w fun e w' => e = .returned (.bool true) ∧ Below w.heap.size w w' := by
  have HH := hid H
  have HM := hid hm
  clear H hm
  go_enter Try.func13, Try.ntmps13
  go_wp2_with (first
    | (go_at_call 55; refine (many_any _ _ _ _ _ _ _ _ _ HH.out).mono ?_; rintro e w1 ⟨rfl, hb1⟩; rw [HM.out])
    | (go_at_call 19; refine (awake_any _).mono ?_; rintro e w2 ⟨rfl, hb2⟩))
  go_ret
  exact ⟨rfl, btr hb1 hb2 hb1.size⟩
set_option maxHeartbeats 1000000 in
set_option maxRecDepth 100000 in
theorem firsts_few (A : Option Addr) (n c : Nat) (P : Nat → Int) (G : Nat → Option Addr) (N C : Nat → Nat) (h : Nat → Nat → Int) (x : Int) (w : World) (H : WinsAt w A n P G N C h) (hm : manyB n N = false) :
    Calls Try.prog 13 #[.slice A n c, .int .i64 x] w fun e w' => e = .returned (.bool true) ∧ Below w.heap.size w w' := by
  have K : KWs w w A n P G N C h := ⟨Below.refl _ _, H⟩
  have HM := hid hm
  clear H hm
  go_enter Try.func13, Try.ntmps13
  go_wp2_with (first
    | (go_at_call 55; refine (many_any _ _ _ _ _ _ _ _ _ K.wins).mono ?_; rintro e w1 ⟨rfl, hb⟩; rw [HM.out]; replace K := K.next hb; clear hb)
    | (go_at_call 50; refine (wFirst_any _ _ _ _ _ _ _ _ _ _ K.wins).mono ?_; rintro e w2 ⟨rfl, hb⟩; replace K := K.next hb; clear hb)
    | (go_at_call 56; refine (rFirst_any _ _ _ _ _ _ _ _ _ _ K.wins).mono ?_; rintro e w3 ⟨rfl, hb⟩; replace K := K.next hb; clear hb)
    | (go_at_call 51; refine (wNumber_any _ _ _ _ _ _ _ _ _ K.wins).mono ?_; rintro e w4 ⟨rfl, hb⟩; replace K := K.next hb; clear hb)
    | (go_at_call 57; refine (rNumber_any _ _ _ _ _ _ _ _ _ K.wins).mono ?_; rintro e w5 ⟨rfl, hb⟩; replace K := K.next hb; clear hb)
    | (go_at_call 19; refine (awake_any _).mono ?_; rintro e w6 ⟨rfl, hb⟩; replace K := K.next hb; clear hb))
  go_ret
  exact ⟨rfl, K.bel⟩
theorem windowFirsts_walk (A : Option Addr) (n c : Nat) (P : Nat → Int) (G : Nat → Option Addr) (N C : Nat → Nat) (h : Nat → Nat → Int) (x : Int) (w : World) (H : WinsAt w A n P G N C h) (hx : (Lit.int .i64 x).wf = true) :
    Calls Try.prog 13 #[.slice A n c, .int .i64 x] w fun e w' => e = .returned (.bool true) ∧ Below w.heap.size w w' := by
  cases hm : manyB n N
  · exact firsts_few A n c P G N C h x w H hm
  · exact firsts_many A n c P G N C h x w H hm
end Go.Proofs.Ytfabpkcgdblnbaa
