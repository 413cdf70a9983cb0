/-
  every; the law WindowTogether. Conditions: the windows lie in memory.
-/
import Derived.Test.YtfabpkcgdblnbaaV21
import Derived.Test.YtfabpkcgdblnbaaW7
namespace Go.Proofs.Ytfabpkcgdblnbaa
set_option linter.unusedVariables false
set_option linter.unusedSimpArgs false
open Go.RowKit

theorem winB_up {P : Int} {n : Nat} {h : Nat → Int} (hw : winB P n h 60 = true) : winB P n h 3600 = true :=
  winB_true.2 ⟨⟨(winB_true.1 hw).1.1, by have := (winB_true.1 hw).1.2; omega⟩, (winB_true.1 hw).2⟩

set_option maxHeartbeats 1000000 in
theorem every_any (A : Option Addr) (n c : Nat) (p : Nat → Nat) (G : Nat → Option Addr) (N C : Nat → Nat) (h : Nat → Nat → Int) (x : Nat) (w : World) (H : WinsAt w A n (fun i => (p i : Int)) G N C h)
    (hv : ∀ i, i < n → winB (p i) (N i) (h i) 60 = true) (hx : (x : Int) ≤ 1000000000) :
    Calls Try.prog 59 #[.slice A n c, .int .i64 (x : Int)] w fun e w' => e = .returned (.bool (allB n p (opW N h) x)) ∧ Below w.heap.size w w' := by
  have HH := hid H
  have HV := hid hv
  have hn := H.1
  clear H hv
  go_enter Try.func59, Try.ntmps59
  go_wp2_with fail
  go_loopw [11] (fun z wr => ∃ k : Nat, k ≤ n ∧ z = .int .i64 k ∧ Hid (allB k p (opW N h) x = true) ∧ Below w.heap.size w wr) (fun z _ => n - (intOf z).toNat)
  case atStart => exact ⟨0, by omega, rfl, hid rfl, Below.refl _ _⟩
  case round =>
    obtain ⟨k, hk, rfl, HN, hB⟩ := hrel
    by_cases hlt : k < n
    · obtain ⟨_, b, off, hb1, hA, hc⟩ := HH.out.below hB
      obtain rfl := hA (by omega)
      obtain ⟨⟨hc0, hc1⟩, hhk⟩ := hc k hlt
      have HK := hid hhk
      have HW := hid (winB_up (HV.out k hlt))
      clear hc hA hhk
      cases hf : opn (N k) (h k) (x % p k)
      · have HF := hid (show allB n p (opW N h) x = false by
          unfold allB
          rw [anyB_true.2 ⟨k, hlt, by unfold shutB opW; rw [hf]; rfl⟩]; rfl)
        go_wp2_with fail
        refine (opens_at (p k) _ _ _ _ x false _ (HK.out.alloc _) HW.out hx hf).mono ?_
        rintro e w2 ⟨rfl, hb⟩
        go_wp2
        go_ret
        exact ⟨ret_bool HF.out.symm, btr (hB.alloc hB.size _) hb (by simp; have := hB.size; omega)⟩
      · have HF := hid (show allB (k + 1) p (opW N h) x = true by rw [allB_succ, HN.out]; unfold opW; rw [hf]; rfl)
        go_wp2_with fail
        refine (opens_at (p k) _ _ _ _ x true _ (HK.out.alloc _) HW.out hx hf).mono ?_
        rintro e w2 ⟨rfl, hb⟩
        go_wp2
        go_roundw
        case rel => exact ⟨k + 1, by omega, by go_num, HF, btr (hB.alloc hB.size _) hb (by simp; have := hB.size; omega)⟩
        case measure => simp [intOf]; omega
    · obtain rfl : k = n := by omega
      go_wp2
      go_ret
      exact ⟨ret_bool HN.out.symm, hB⟩

theorem first_of {f : Nat → Bool} : ∀ L, (∃ i, i < L ∧ f i = true) → ∃ i, i < L ∧ f i = true ∧ ∀ j, j < i → f j = false := by
  intro L
  induction L with
  | zero => rintro ⟨i, hi, _⟩; omega
  | succ L ih =>
    rintro ⟨i, hi, hf⟩
    by_cases h : ∃ i, i < L ∧ f i = true
    · obtain ⟨i, h1, h2, h3⟩ := ih h
      exact ⟨i, by omega, h2, h3⟩
    · refine ⟨i, hi, hf, fun j hj => ?_⟩
      cases e : f j
      · rfl
      · exact absurd ⟨j, by omega, e⟩ h
theorem cnt_flat {f : Nat → Bool} {a b : Nat} (hab : a ≤ b) (h : ∀ j, a ≤ j → j < b → f j = false) : cnt b f = cnt a f := by
  obtain ⟨k, rfl⟩ := Nat.exists_eq_add_of_le hab
  rw [cnt_add]
  have : cnt k (fun i => f (a + i)) = 0 := by
    have := cnt_not k (fun i => f (a + i))
    rw [cnt_congr (g := fun _ => true) (fun i hi => by rw [h (a + i) (by omega) (by omega)]; rfl)] at this
    have h2 : cnt k (fun _ => true) = k := by unfold cnt; simp
    omega
  omega
theorem cnt_mono {f : Nat → Bool} {a b : Nat} (hab : a ≤ b) : cnt a f ≤ cnt b f := by
  obtain ⟨k, rfl⟩ := Nat.exists_eq_add_of_le hab
  rw [cnt_add]; omega
theorem cnt_pos {f : Nat → Bool} {L : Nat} (h : cnt L f ≠ 0) : ∃ i, i < L ∧ f i = true := by
  rcases Classical.em (∃ i, i < L ∧ f i = true) with h1 | h1
  · exact h1
  · refine absurd ?_ h
    rw [cnt_flat (a := 0) (b := L) (by omega) (fun j _ hj => by
      cases e : f j
      · rfl
      · exact absurd ⟨j, hj, e⟩ h1)]
    rfl
/-- the first open hour from an hour on, where one is open in a period -/
theorem first_ex {P : Nat → Int} {n : Nat} {N : Nat → Nat} {h : Nat → Nat → Int} (hz : codeW P n N h true = 0) (hc : cnt (lcmN (perW P) n) (allB n (perW P) (opW N h)) ≠ 0) (a : Nat) (ha : (a : Int) ≤ 1000000000) :
    ∃ y : Nat, firstOf P n N h a = ((y : Int), 0) ∧ a ≤ y ∧ y < a + lcmN (perW P) n ∧ allB n (perW P) (opW N h) y = true ∧ ∀ j, a ≤ j → j < y → allB n (perW P) (opW N h) j = false := by
  obtain ⟨i, hi, hf⟩ := cnt_pos hc
  have hz' : codeW P n N h (btw 0 (a : Int) 1000000000) = 0 := by rw [btw_true (by omega) ha]; exact hz
  have hM := fun z => allB_mod (f := opW N h) (fun i hi => lcmN_dvd (p := perW P) (n := n) hi) z
  have hH := fun z => @firstOf_hit P n N h a z hz'
  generalize lcmN (perW P) n = L at *
  generalize allB n (perW P) (opW N h) = g at *
  have hL : 0 < L := by omega
  have key : ∃ k, k < L ∧ g (a + k) = true := by
    have hm := Nat.mod_lt a hL
    have hd := Nat.div_add_mod a L
    by_cases e : a % L ≤ i
    · refine ⟨i - a % L, by omega, ?_⟩
      rw [← hM, show a + (i - a % L) = L * (a / L) + i by omega, Nat.mul_add_mod, Nat.mod_eq_of_lt hi, hf]
    · refine ⟨i + L - a % L, by omega, ?_⟩
      rw [← hM, show a + (i + L - a % L) = L * (a / L + 1) + i by rw [Nat.mul_add]; omega, Nat.mul_add_mod, Nat.mod_eq_of_lt hi, hf]
  obtain ⟨k, hk, hgk, hno⟩ := first_of (f := fun k => g (a + k)) L key
  refine ⟨a + k, ?_, by omega, by omega, hgk, fun j h1 h2 => ?_⟩
  · exact hH (a + k) (by omega) (by omega) hgk fun j h1 h2 => by
      obtain ⟨m, rfl⟩ := Nat.exists_eq_add_of_le h1
      exact hno m (by omega)
  · obtain ⟨m, rfl⟩ := Nat.exists_eq_add_of_le h1
    exact hno m (by omega)
theorem first_none {P : Nat → Int} {n : Nat} {N : Nat → Nat} {h : Nat → Nat → Int} (hz : codeW P n N h true = 0) (hc : cnt (lcmN (perW P) n) (allB n (perW P) (opW N h)) = 0) (a : Nat) (ha : (a : Int) ≤ 1000000000) :
    firstOf P n N h a = (0, 5) := by
  have hz' : codeW P n N h (btw 0 (a : Int) 1000000000) = 0 := by rw [btw_true (by omega) ha]; exact hz
  refine firstOf_no hz' fun j h1 h2 => ?_
  have hL := lcmN_pos (p := perW P) n fun i hi => (codeW_per hz i hi).1
  rw [← allB_mod (fun i hi => lcmN_dvd (p := perW P) (n := n) hi) j]
  cases e : allB n (perW P) (opW N h) (j % lcmN (perW P) n)
  · rfl
  · have hlt := Nat.mod_lt j (show 0 < lcmN (perW P) n by omega)
    have h3 := cnt_mono (f := allB n (perW P) (opW N h)) (show j % lcmN (perW P) n + 1 ≤ lcmN (perW P) n by omega)
    rw [cnt_succ, e] at h3
    simp at h3
    omega
end Go.Proofs.Ytfabpkcgdblnbaa
