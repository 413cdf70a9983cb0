/-
  First and Number of the program. Conditions: the windows lie in memory.
-/
import Derived.Test.YtfabpkcgdblnbaaV18
import Derived.Test.YtfabpkcgdblnbaaMathC
namespace Go.Proofs.Ytfabpkcgdblnbaa
set_option linter.unusedVariables false
set_option linter.unusedSimpArgs false
open Go.RowKit

def perW (P : Nat → Int) (i : Nat) : Nat := (P i).toNat
def opW (N : Nat → Nat) (h : Nat → Nat → Int) (i : Nat) : Nat → Bool := opn (N i) (h i)
/-- the error of windows that are taken together -/
def codeW (P : Nat → Int) (n : Nat) (N : Nat → Nat) (h : Nat → Nat → Int) (r : Bool) : Int :=
  if anyB n (badW P N h) then 50 else if !(btw 1 n 4 && r) then 2 else if 100000 < lcmN (perW P) n then 4 else 0
def firstOf (P : Nat → Int) (n : Nat) (N : Nat → Nat) (h : Nat → Nat → Int) (x : Int) : Int × Int :=
  if codeW P n N h (btw 0 x 1000000000) = 0 then
    if anyB (lcmN (perW P) n) (fun k => allB n (perW P) (opW N h) (x.toNat + k)) then (x + idxB (lcmN (perW P) n) (fun k => allB n (perW P) (opW N h) (x.toNat + k)), 0) else (0, 5)
  else (0, codeW P n N h (btw 0 x 1000000000))
def numOf (P : Nat → Int) (n : Nat) (N : Nat → Nat) (h : Nat → Nat → Int) : Int × Int × Int :=
  if codeW P n N h true = 0 then ((cnt (lcmN (perW P) n) (allB n (perW P) (opW N h)) : Nat), (lcmN (perW P) n : Nat), 0) else (0, 0, codeW P n N h true)
theorem firstOf_err {P : Nat → Int} {n : Nat} {N : Nat → Nat} {h : Nat → Nat → Int} {x : Int} (hz : codeW P n N h (btw 0 x 1000000000) ≠ 0) : firstOf P n N h x = (0, codeW P n N h (btw 0 x 1000000000)) := by
  unfold firstOf; rw [if_neg hz]
theorem firstOf_hit {P : Nat → Int} {n : Nat} {N : Nat → Nat} {h : Nat → Nat → Int} {x y : Nat} (hz : codeW P n N h (btw 0 (x : Int) 1000000000) = 0) (h1 : x ≤ y) (h2 : y < x + lcmN (perW P) n)
    (hy : allB n (perW P) (opW N h) y = true) (hno : ∀ j, x ≤ j → j < y → allB n (perW P) (opW N h) j = false) : firstOf P n N h x = ((y : Int), 0) := by
  obtain ⟨k, rfl⟩ := Nat.exists_eq_add_of_le h1
  unfold firstOf
  simp only [Int.toNat_natCast]
  rw [if_pos hz, if_pos (anyB_true.2 ⟨k, by omega, hy⟩), idxB_some (k := k) (by omega) hy (fun j hj => hno _ (by omega) (by omega))]
  simp
theorem firstOf_no {P : Nat → Int} {n : Nat} {N : Nat → Nat} {h : Nat → Nat → Int} {x : Nat} (hz : codeW P n N h (btw 0 (x : Int) 1000000000) = 0)
    (hno : ∀ j, x ≤ j → j < x + lcmN (perW P) n → allB n (perW P) (opW N h) j = false) : firstOf P n N h x = (0, 5) := by
  unfold firstOf
  simp only [Int.toNat_natCast]
  rw [if_pos hz, if_neg]
  rw [anyB_false.2 fun k hk => hno _ (by omega) (by omega)]
  simp

/-- what a code of 0 says -/
theorem codeW_zero {P : Nat → Int} {n : Nat} {N : Nat → Nat} {h : Nat → Nat → Int} {r : Bool} (hz : codeW P n N h r = 0) :
    anyB n (badW P N h) = false ∧ (1 ≤ n ∧ n ≤ 4) ∧ r = true ∧ lcmN (perW P) n ≤ 100000 ∧ (∀ i, i < n → winB (P i) (N i) (h i) 60 = true) := by
  unfold codeW at hz
  cases h1 : anyB n (badW P N h)
  · rw [if_neg (by rw [h1]; simp)] at hz
    cases h2 : (btw 1 n 4 && r)
    · rw [if_pos (by rw [h2]; rfl)] at hz; simp at hz
    · rw [if_neg (by rw [h2]; simp)] at hz
      by_cases h3 : 100000 < lcmN (perW P) n
      · rw [if_pos h3] at hz; simp at hz
      · rw [Bool.and_eq_true, btw_iff] at h2
        exact ⟨rfl, by omega, h2.2, by omega, fun i hi => by have := anyB_false.1 h1 i hi; unfold badW at this; simpa using this⟩
  · rw [if_pos h1] at hz; simp at hz
theorem perW_eq {P : Nat → Int} {n : Nat} {N : Nat → Nat} {h : Nat → Nat → Int} (hb : anyB n (badW P N h) = false) {i : Nat} (hi : i < n) : P i = (perW P i : Nat) := by
  have h1 := anyB_false.1 hb i hi
  unfold badW at h1
  have h2 := (winB_true.1 (show winB (P i) (N i) (h i) 60 = true by simpa using h1)).1
  unfold perW; omega
theorem WinsAt.congr {w : World} {A : Option Addr} {n : Nat} {P Q : Nat → Int} {G : Nat → Option Addr} {N C : Nat → Nat} {h : Nat → Nat → Int} (H : WinsAt w A n P G N C h) (e : ∀ i, i < n → P i = Q i) : WinsAt w A n Q G N C h := by
  obtain ⟨hn, b, off, hlt, hA, hc⟩ := H
  exact ⟨hn, b, off, hlt, hA, fun i hi => by rw [← e i hi]; exact hc i hi⟩
theorem badW_congr {n : Nat} {P Q : Nat → Int} {N : Nat → Nat} {h : Nat → Nat → Int} (e : ∀ i, i < n → P i = Q i) (hb : anyB n (badW P N h) = false) : anyB n (badW Q N h) = false :=
  anyB_false.2 fun i hi => by have := anyB_false.1 hb i hi; unfold badW at this ⊢; rw [← e i hi]; exact this

def SevE (w : World) (z : Int) (e : Ending) (w' : World) : Prop := ∃ A m c y, e = .returned (.tuple #[.agg #[.slice A m c, .int .i64 y], .int .i64 z]) ∧ Below w.heap.size w w'
def SevO (w : World) (n : Nat) (p : Nat → Nat) (f : Nat → Nat → Bool) (L : Nat) (e : Ending) (w' : World) : Prop :=
  ∃ A c, e = .returned (.tuple #[.agg #[.slice A n c, .int .i64 (L : Int)], .int .i64 0]) ∧ SevAt w' A n p f ∧ Below w.heap.size w w'
theorem newSev_fail (A : Option Addr) (n c : Nat) (P : Nat → Int) (G : Nat → Option Addr) (N C : Nat → Nat) (h : Nat → Nat → Int) (r : Bool) (w : World) (H : WinsAt w A n P G N C h) (hz : codeW P n N h r ≠ 0) :
    Calls Try.prog 88 #[.slice A n c, .bool r] w (SevE w (codeW P n N h r)) := by
  cases h1 : anyB n (badW P N h)
  · cases h2 : (btw 1 n 4 && r)
    · rw [show codeW P n N h r = 2 by unfold codeW; rw [if_neg (by rw [h1]; simp), if_pos (by rw [h2]; rfl)]]
      exact (newSev_arg A n c P G N C h r w H h1 h2).mono fun e w' ⟨he, hb⟩ => ⟨_, _, _, _, he, hb⟩
    · have h3 : 100000 < lcmN (perW P) n := by
        rcases Nat.lt_or_ge 100000 (lcmN (perW P) n) with h3 | h3
        · exact h3
        · exact absurd (show codeW P n N h r = 0 by unfold codeW; rw [if_neg (by rw [h1]; simp), if_neg (by rw [h2]; simp), if_neg (by omega)]) hz
      rw [show codeW P n N h r = 4 by unfold codeW; rw [if_neg (by rw [h1]; simp), if_neg (by rw [h2]; simp), if_pos h3]]
      rw [Bool.and_eq_true, btw_iff] at h2
      obtain ⟨h2, rfl⟩ := h2
      exact (newSev_good A n c (perW P) G N C h w (H.congr fun i hi => perW_eq h1 hi) (badW_congr (fun i hi => perW_eq h1 hi) h1) (by omega)).mono fun e w' ⟨A', c', he, _, hb⟩ => ⟨A', n, c', ((lcmN (perW P) n : Nat) : Int), by rw [he, if_pos h3], hb⟩
  · rw [show codeW P n N h r = 50 by unfold codeW; rw [if_pos h1]]
    exact (newSev_bad A n c P G N C h r w H h1).mono fun e w' ⟨he, hb⟩ => ⟨_, _, _, _, he, hb⟩
theorem newSev_ok (A : Option Addr) (n c : Nat) (P : Nat → Int) (G : Nat → Option Addr) (N C : Nat → Nat) (h : Nat → Nat → Int) (w : World) (H : WinsAt w A n P G N C h) (hz : codeW P n N h true = 0) :
    Calls Try.prog 88 #[.slice A n c, .bool true] w (SevO w n (perW P) (opW N h) (lcmN (perW P) n)) := by
  obtain ⟨h1, h2, _, h3, _⟩ := codeW_zero hz
  exact (newSev_good A n c (perW P) G N C h w (H.congr fun i hi => perW_eq h1 hi) (badW_congr (fun i hi => perW_eq h1 hi) h1) h2).mono fun e w' ⟨A', c', he, hs, hb⟩ => ⟨A', c', by rw [he, if_neg (by omega)], hs, hb⟩

set_option maxHeartbeats 1000000 in
theorem wFirst_any (A : Option Addr) (n c : Nat) (P : Nat → Int) (G : Nat → Option Addr) (N C : Nat → Nat) (h : Nat → Nat → Int) (x : Int) (w : World) (H : WinsAt w A n P G N C h) :
    Calls Try.prog 50 #[.slice A n c, .int .i64 x] w fun e w' => e = .returned (.tuple #[.int .i64 (firstOf P n N h x).1, .int .i64 (firstOf P n N h x).2]) ∧ Below w.heap.size w w' := by
  by_cases hz : codeW P n N h (btw 0 x 1000000000) = 0
  · obtain ⟨h1, h2, hx, h3, _⟩ := codeW_zero hz
    have hx0 := btw_iff.1 hx
    obtain ⟨y, rfl⟩ := Int.eq_ofNat_of_zero_le hx0.1
    have HZ := hid hz
    have HX := hid hx
    have HH := hid H
    rw [hx] at hz
    have HS := hid (newSev_ok A n c P G N C h w H hz)
    have hL := lcmN_pos (p := perW P) n fun i hi => by
      have := anyB_false.1 h1 i hi
      unfold badW at this
      have h2 := (winB_true.1 (show winB (P i) (N i) (h i) 60 = true by simpa using this)).1
      unfold perW; omega
    have HY := hid (fun z => @firstOf_hit P n N h y z HZ.out)
    have HN := hid (@firstOf_no P n N h y HZ.out)
    clear H hz hx h1 HZ
    generalize lcmN (perW P) n = L at *
    go_enter Try.func50, Try.ntmps50
    go_wp2_with (go_at_call 80; refine (isHour_any _ _).mono ?_; rintro e w' ⟨rfl, rfl⟩; rw [HX.out])
    refine HS.out.mono ?_
    rintro e w1 ⟨A1, c1, rfl, hs1, hb1⟩
    have hK : Hid (Blk (w1.alloc (.cells #[.slice A1 n c1, .int .i64 (L : Int)] 95)) w1.heap.size 95 #[.slice A1 n c1, .int .i64 (L : Int)] ∧ SevAt (w1.alloc (.cells #[.slice A1 n c1, .int .i64 (L : Int)] 95)) A1 n (perW P) (opW N h) ∧ Below w.heap.size w (w1.alloc (.cells #[.slice A1 n c1, .int .i64 (L : Int)] 95))) :=
      hid ⟨Blk.new _ _ _, hs1.below (box_bel _ _), hb1.alloc hb1.size _⟩
    clear hs1 hb1 HS
    go_wp2_with fail
    go_loopw [8] (fun z wr => ∃ k : Nat, y ≤ k ∧ k ≤ y + L ∧ z = .int .i64 (k : Int) ∧ Hid (∀ j, y ≤ j → j < k → allB n (perW P) (opW N h) j = false) ∧ Hid (Blk wr w1.heap.size 95 #[.slice A1 n c1, .int .i64 (L : Int)] ∧ SevAt wr A1 n (perW P) (opW N h) ∧ Below w.heap.size w wr)) (fun z _ => y + L - (intOf z).toNat)
    case atStart => exact ⟨y, by omega, by omega, rfl, hid (by omega), hK⟩
    case round =>
      obtain ⟨k, hk1, hk2, rfl, HNo, HKr⟩ := hrel
      clear hK
      have c0 := HKr.out.1.cell 0
      have c1' := HKr.out.1.cell 1
      simp only [List.getElem?_toArray, List.getElem?_cons_succ, List.getElem?_cons_zero] at c0 c1'
      by_cases hlt : k < y + L
      · cases hv : allB n (perW P) (opW N h) k
        · have HV := hid hv
          clear hv
          go_wp2_with fail
          refine (sevOpen_any _ _ _ _ _ _ _ _ HKr.out.2.1).mono ?_
          rintro e w2 ⟨rfl, hb2⟩
          rw [HV.out]
          have hK2 := hid (And.intro (HKr.out.1.below' hb2) (And.intro (HKr.out.2.1.below hb2) (btr HKr.out.2.2 hb2 HKr.out.2.2.size)))
          clear hb2
          go_wp2
          go_roundw
          case rel => exact ⟨k + 1, by omega, by omega, by go_num, hid (fun j h1 h2 => by (by_cases e : j = k; (subst e; exact HV.out); exact HNo.out j h1 (by omega))), hK2⟩
          case measure => simp [intOf]; omega
        · have HF := hid (HY.out k hk1 hlt hv HNo.out)
          have HV := hid hv
          clear hv
          go_wp2_with fail
          refine (sevOpen_any _ _ _ _ _ _ _ _ HKr.out.2.1).mono ?_
          rintro e w2 ⟨rfl, hb2⟩
          rw [HV.out]
          have HB2 := hid (btr HKr.out.2.2 hb2 HKr.out.2.2.size)
          clear hb2
          go_wp2
          go_ret2
          exact ⟨by rw [HF.out]; rfl, HB2.out⟩
      · have HF := hid (HN.out fun j h1 h2 => HNo.out j h1 (by omega))
        go_wp2
        go_ret2
        exact ⟨by rw [HF.out]; rfl, HKr.out.2.2⟩
  · have HE := hid (firstOf_err hz)
    have hz1 : (codeW P n N h (btw 0 x 1000000000) != 0) = true := by simpa using hz
    have HS := hid (newSev_fail A n c P G N C h (btw 0 x 1000000000) w H hz)
    clear hz H
    generalize codeW P n N h (btw 0 x 1000000000) = z at *
    go_enter Try.func50, Try.ntmps50
    go_wp2_with (first
      | (go_at_call 80; refine (isHour_any _ _).mono ?_; rintro e w' ⟨rfl, rfl⟩)
      | (go_at_call 88; refine HS.out.mono ?_; rintro e w1 ⟨A1, m1, c1, y1, rfl, hb1⟩))
    go_ret2
    exact ⟨by rw [HE.out]; rfl, hb1.alloc hb1.size _⟩

def ret3 (a b c : Int) : Ending := .returned (.tuple #[.int .i64 a, .int .i64 b, .int .i64 c])
set_option maxHeartbeats 1000000 in
theorem wNumber_any (A : Option Addr) (n c : Nat) (P : Nat → Int) (G : Nat → Option Addr) (N C : Nat → Nat) (h : Nat → Nat → Int) (w : World) (H : WinsAt w A n P G N C h) :
    Calls Try.prog 51 #[.slice A n c] w fun e w' => e = .returned (.tuple #[.int .i64 (numOf P n N h).1, .int .i64 (numOf P n N h).2.1, .int .i64 (numOf P n N h).2.2]) ∧ Below w.heap.size w w' := by
  by_cases hz : codeW P n N h true = 0
  · obtain ⟨h1, h2, hx, h3, _⟩ := codeW_zero hz
    have HE := hid (show numOf P n N h = (((cnt (lcmN (perW P) n) (allB n (perW P) (opW N h)) : Nat) : Int), ((lcmN (perW P) n : Nat) : Int), 0) by unfold numOf; rw [if_pos hz])
    have HS := hid (newSev_ok A n c P G N C h w H hz)
    clear H hz hx h1
    generalize lcmN (perW P) n = L at *
    go_enter Try.func51, Try.ntmps51
    go_wp2_with fail
    refine HS.out.mono ?_
    rintro e w1 ⟨A1, c1, rfl, hs1, hb1⟩
    have hK : Hid (Blk (w1.alloc (.cells #[.slice A1 n c1, .int .i64 (L : Int)] 95)) w1.heap.size 95 #[.slice A1 n c1, .int .i64 (L : Int)] ∧ SevAt (w1.alloc (.cells #[.slice A1 n c1, .int .i64 (L : Int)] 95)) A1 n (perW P) (opW N h) ∧ Below w.heap.size w (w1.alloc (.cells #[.slice A1 n c1, .int .i64 (L : Int)] 95))) :=
      hid ⟨Blk.new _ _ _, hs1.below (box_bel _ _), hb1.alloc hb1.size _⟩
    clear hs1 hb1 HS
    go_wp2_with fail
    go_loopw [7, 19] (fun s z wr => ∃ k : Nat, k ≤ L ∧ z = .int .i64 (k : Int) ∧ s = .int .i64 (cnt k (allB n (perW P) (opW N h)) : Nat) ∧ Hid (Blk wr w1.heap.size 95 #[.slice A1 n c1, .int .i64 (L : Int)] ∧ SevAt wr A1 n (perW P) (opW N h) ∧ Below w.heap.size w wr)) (fun _ z _ => L - (intOf z).toNat)
    case atStart => exact ⟨0, by omega, rfl, rfl, hK⟩
    case round =>
      obtain ⟨k, hk2, rfl, rfl, HKr⟩ := hrel
      clear hK
      have c0 := HKr.out.1.cell 0
      have c1' := HKr.out.1.cell 1
      simp only [List.getElem?_toArray, List.getElem?_cons_succ, List.getElem?_cons_zero] at c0 c1'
      have hcl := cnt_le k (allB n (perW P) (opW N h))
      by_cases hlt : k < L
      · cases hv : allB n (perW P) (opW N h) k
        · have HV := hid hv
          have HC := hid (show cnt (k + 1) (allB n (perW P) (opW N h)) = cnt k (allB n (perW P) (opW N h)) by rw [cnt_succ, hv]; rfl)
          clear hv
          go_wp2_with fail
          refine (sevOpen_any _ _ _ _ _ _ _ _ HKr.out.2.1).mono ?_
          rintro e w2 ⟨rfl, hb2⟩
          rw [HV.out]
          have hK2 := hid (And.intro (HKr.out.1.below' hb2) (And.intro (HKr.out.2.1.below hb2) (btr HKr.out.2.2 hb2 HKr.out.2.2.size)))
          clear hb2
          go_wp2
          go_roundw
          case rel => exact ⟨k + 1, by omega, by go_num, by rw [HC.out], hK2⟩
          case measure => simp [intOf]; omega
        · have HV := hid hv
          have HC := hid (show cnt (k + 1) (allB n (perW P) (opW N h)) = cnt k (allB n (perW P) (opW N h)) + 1 by rw [cnt_succ, hv]; rfl)
          clear hv
          go_wp2_with fail
          refine (sevOpen_any _ _ _ _ _ _ _ _ HKr.out.2.1).mono ?_
          rintro e w2 ⟨rfl, hb2⟩
          rw [HV.out]
          have hK2 := hid (And.intro (HKr.out.1.below' hb2) (And.intro (HKr.out.2.1.below hb2) (btr HKr.out.2.2 hb2 HKr.out.2.2.size)))
          clear hb2
          go_wp2
          go_roundw
          case rel => exact ⟨k + 1, by omega, by go_num, by rw [HC.out]; go_num, hK2⟩
          case measure => simp [intOf]; omega
      · obtain rfl : k = L := by omega
        go_wp2
        go_quiet (fail)
        go_wp2
        go_ret3
        exact ⟨by rw [HE.out]; rfl, bdn HKr.out.2.2 _⟩
  · have HE := hid (show numOf P n N h = (0, 0, codeW P n N h true) by unfold numOf; rw [if_neg hz])
    have hz1 : (codeW P n N h true != 0) = true := by simpa using hz
    have HS := hid (newSev_fail A n c P G N C h true w H hz)
    clear hz H
    generalize codeW P n N h true = z at *
    go_enter Try.func51, Try.ntmps51
    go_wp2_with (go_at_call 88; refine HS.out.mono ?_; rintro e w1 ⟨A1, m1, c1, y1, rfl, hb1⟩)
    go_ret3
    exact ⟨by rw [HE.out]; rfl, hb1.alloc hb1.size _⟩
end Go.Proofs.Ytfabpkcgdblnbaa
