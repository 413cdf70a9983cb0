/-
  Several windows in memory; the law's measure 'many'; ContainsFunc over windows. Conditions: the windows lie in memory.
-/
import Derived.Test.YtfabpkcgdblnbaaV9
namespace Go.Proofs.Ytfabpkcgdblnbaa
set_option linter.unusedVariables false
set_option linter.unusedSimpArgs false
open Go.RowKit

def WinsAt (w : World) (A : Option Addr) (n : Nat) (P : Nat → Int) (G : Nat → Option Addr) (N C : Nat → Nat) (h : Nat → Nat → Int) : Prop :=
  n ≤ 9223372036854775807 ∧ ∃ b off, (0 < n → b < w.heap.size) ∧ (0 < n → A = some ⟨b, off, none⟩) ∧
    ∀ i, i < n → (w.cell? ⟨b, off + i * 2, none⟩ = some (.int .i64 (P i)) ∧ w.cell? ⟨b, off + i * 2 + 1, none⟩ = some (.slice (G i) (N i) (C i))) ∧ HoursAt w (G i) (N i) (h i)
section
variable {w w' : World} {A : Option Addr} {n : Nat} {P : Nat → Int} {G : Nat → Option Addr} {N C : Nat → Nat} {h : Nat → Nat → Int}
theorem WinsAt.below (H : WinsAt w A n P G N C h) (hb : Below w.heap.size w w') : WinsAt w' A n P G N C h := by
  obtain ⟨hn, b, off, hlt, hA, hc⟩ := H
  exact ⟨hn, b, off, fun h => Nat.lt_of_lt_of_le (hlt h) hb.size, hA, fun i hi => ⟨⟨(hb.cell (p := ⟨b, off + i * 2, none⟩) (hlt (by omega))).trans (hc i hi).1.1, (hb.cell (p := ⟨b, off + i * 2 + 1, none⟩) (hlt (by omega))).trans (hc i hi).1.2⟩, (hc i hi).2.below hb⟩⟩
theorem WinsAt.alloc (H : WinsAt w A n P G N C h) (o : Obj) : WinsAt (w.alloc o) A n P G N C h := H.below (box_bel _ _)
theorem WinsAt.len (H : WinsAt w A n P G N C h) {i : Nat} (hi : i < n) : N i ≤ 9223372036854775807 := by
  obtain ⟨hn, b, off, hlt, hA, hc⟩ := H
  exact (hc i hi).2.1
end

/-- many of the law -/
def manyB (n : Nat) (N : Nat → Nat) : Bool := anyB n (fun i => decide (200 < N i)) || decide (20 < n)
set_option maxHeartbeats 1000000 in
theorem many_any (A : Option Addr) (n c : Nat) (P : Nat → Int) (G : Nat → Option Addr) (N C : Nat → Nat) (h : Nat → Nat → Int) (w : World) (H : WinsAt w A n P G N C h) :
    Calls Try.prog 55 #[.slice A n c] w fun e w' => e = .returned (.bool (manyB n N)) ∧ Below w.heap.size w w' := by
  have HH := hid H
  have hn := H.1
  clear H
  go_enter Try.func55, Try.ntmps55
  go_wp2_with fail
  go_loopw [7] (fun i wr => ∃ k : Nat, k ≤ n ∧ i = .int .i64 k ∧ Hid (∀ j, j < k → decide (200 < N j) = false) ∧ Below w.heap.size w wr) (fun i _ => n - (intOf i).toNat)
  case atStart => exact ⟨0, by omega, rfl, hid (by omega), Below.refl _ _⟩
  case round =>
    obtain ⟨k, hk, rfl, HN, hB⟩ := hrel
    by_cases hlt : k < n
    · obtain ⟨_, b, off, hb1, hA, hc⟩ := HH.out.below hB
      obtain rfl := hA (by omega)
      obtain ⟨⟨hc0, hc1⟩, _⟩ := hc k hlt
      have hN := HH.out.len hlt
      by_cases hbig : 200 < N k
      · have hbig' : (200 : Int) < (N k : Int) := by omega
        have HE : Hid (manyB n N = true) := by unfold manyB; rw [anyB_true.2 ⟨k, hlt, by simpa using hbig⟩]; rfl
        clear hbig hc hA
        go_wp2
        go_ret
        exact ⟨ret_bool (by rw [HE.out]), hB.alloc hB.size _⟩
      · have hbig' : ¬ (200 : Int) < (N k : Int) := by omega
        have HE := hid hbig
        clear hbig hc hA
        go_wp2
        go_roundw
        case rel => exact ⟨k + 1, by omega, by go_num, hid (fun j hj => by (by_cases e : j = k; (subst e; simpa using HE.out); exact HN.out j (by omega))), hB.alloc hB.size _⟩
        case measure => simp [intOf]; omega
    · obtain rfl : k = n := by omega
      have HE : Hid (manyB k N = decide (20 < k)) := by unfold manyB; rw [anyB_false.2 HN.out]; rfl
      go_wp2
      go_ret
      refine ⟨ret_bool ?_, hB⟩
      rw [HE.out]
      exact decide_eq_decide.2 (by omega)

/-! ### ContainsFunc over windows: one of them is not valid -/
theorem notValid_any (P : Int) (A : Option Addr) (n c : Nat) (h : Nat → Int) (w : World) (hh : HoursAt w A n h) :
    Calls Try.prog 102 #[.agg #[.int .i64 P, .slice A n c]] w fun e w' => e = .returned (.bool (!winB P n h 60)) ∧ Below w.heap.size w w' := by
  go_enter Try.func102, Try.ntmps102
  go_wp2_with (go_at_call 46; refine (valid_any _ _ _ _ _ _ (hh.alloc _)).mono ?_; rintro e w1 ⟨rfl, hb1⟩)
  go_ret
  exact ⟨rfl, box_trans _ hb1⟩
def badW (P : Nat → Int) (N : Nat → Nat) (h : Nat → Nat → Int) (i : Nat) : Bool := !winB (P i) (N i) (h i) 60
set_option maxHeartbeats 1000000 in
theorem idxW_any (A : Option Addr) (n c : Nat) (P : Nat → Int) (G : Nat → Option Addr) (N C : Nat → Nat) (h : Nat → Nat → Int) (w : World) (H : WinsAt w A n P G N C h) :
    Calls Try.prog 106 #[.slice A n c, .func (.func 102) #[] #[]] w fun e w' => e = .returned (.int .i64 (idxB n (badW P N h))) ∧ Below w.heap.size w w' := by
  have HH := hid H
  have hn := H.1
  clear H
  go_enter Try.func106, Try.ntmps106
  go_wp2_with fail
  go_loopw [8] (fun i wr => ∃ k : Nat, k ≤ n ∧ i = .int .i64 k ∧ Hid (∀ j, j < k → badW P N h j = false) ∧ Below w.heap.size w wr) (fun i _ => n - (intOf i).toNat)
  case atStart => exact ⟨0, by omega, rfl, hid (by omega), Below.refl _ _⟩
  case round =>
    obtain ⟨k, hk, rfl, HN, hB⟩ := hrel
    by_cases hlt : k < n
    · have HW := hid (HH.out.below hB)
      obtain ⟨_, b, off, hb1, hA, hc⟩ := HW.out
      obtain rfl := hA (by omega)
      obtain ⟨⟨hc0, hc1⟩, hhk⟩ := hc k hlt
      have HK := hid hhk
      clear hc hA hhk
      cases hv : winB (P k) (N k) (h k) 60
      · have HI := hid (show idxB n (badW P N h) = k from idxB_some hlt (by unfold badW; rw [hv]; rfl) HN.out)
        have HV := hid hv
        clear hv
        go_wp2_with (go_at_call 102; refine (notValid_any _ _ _ _ _ _ HK.out).mono ?_; rintro e w2 ⟨rfl, hb⟩; rw [HV.out])
        go_ret
        exact ⟨ret_int HI.out.symm, btr hB hb hB.size⟩
      · have HV := hid hv
        clear hv
        go_wp2_with (go_at_call 102; refine (notValid_any _ _ _ _ _ _ HK.out).mono ?_; rintro e w2 ⟨rfl, hb⟩; rw [HV.out])
        go_roundw
        case rel => exact ⟨k + 1, by omega, by go_num, hid (fun j hj => by (by_cases e : j = k; (subst e; unfold badW; rw [HV.out]; rfl); exact HN.out j (by omega))), btr hB hb hB.size⟩
        case measure => simp [intOf]; omega
    · obtain rfl : k = n := by omega
      have HE := hid (idxB_none HN.out)
      go_wp2
      go_ret
      exact ⟨ret_int HE.out.symm, hB⟩
theorem containsW_any (A : Option Addr) (n c : Nat) (P : Nat → Int) (G : Nat → Option Addr) (N C : Nat → Nat) (h : Nat → Nat → Int) (w : World) (H : WinsAt w A n P G N C h) :
    Calls Try.prog 101 #[.slice A n c, .func (.func 102) #[] #[]] w fun e w' => e = .returned (.bool (anyB n (badW P N h))) ∧ Below w.heap.size w w' := by
  have HH := hid (idxW_any A n c P G N C h w H)
  have HE := hid (idxB_any (n := n) (f := badW P N h))
  generalize idxB n (badW P N h) = z at *
  go_enter Try.func101, Try.ntmps101
  go_wp2_with (go_at_call 106; refine HH.out.mono ?_; rintro e w1 ⟨rfl, hb1⟩)
  go_ret
  exact ⟨ret_bool (by rw [← HE.out]), hb1⟩
end Go.Proofs.Ytfabpkcgdblnbaa
