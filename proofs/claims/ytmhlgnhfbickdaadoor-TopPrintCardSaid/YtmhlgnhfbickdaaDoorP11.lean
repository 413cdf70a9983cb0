/-
  The law's own test of many prints (asked), and the walk of the law PrintTriangles. Conditions: stated at each.
-/
import Derived.Test.YtmhlgnhfbickdaaDoorP9
namespace Go.Proofs.YtmhlgnhfbickdaaDoor
set_option linter.unusedVariables false
set_option linter.unusedSimpArgs false
open Go.RowKit Go.Shelf

/-- a list of strings in memory -/
def StrsAt (w : World) (A : Option Addr) (n : Nat) (ss : Nat → ByteArray) : Prop :=
  n ≤ 9223372036854775807 ∧ ∃ b off, (0 < n → b < w.heap.size) ∧ (0 < n → A = some ⟨b, off, none⟩) ∧ ∀ i, i < n → w.cell? ⟨b, off + i, none⟩ = some (.string (ss i)) ∧ (ss i).size ≤ 9223372036854775807
theorem StrsAt.below {w w' : World} {A : Option Addr} {n : Nat} {ss : Nat → ByteArray} (hh : StrsAt w A n ss) (hb : Below w.heap.size w w') : StrsAt w' A n ss := by
  obtain ⟨hn, b, off, hlt, hA, hc⟩ := hh
  exact ⟨hn, b, off, fun h => Nat.lt_of_lt_of_le (hlt h) hb.size, hA, fun i hi => ⟨(hb.cell (p := ⟨b, off + i, none⟩) (hlt (by omega))).trans (hc i hi).1, (hc i hi).2⟩⟩
/-- all are valid, and so are the costs -/
def askB (n : Nat) (ss : Nat → ByteArray) (p c : Int) : Bool := !anyB n (fun i => !valB (ss i)) && vcB p c
set_option maxHeartbeats 1000000 in
/-- skimmerlaw09.asked -/
theorem lawAsked_any (A : Option Addr) (n cap : Nat) (ss : Nat → ByteArray) (p c : Int) (w : World) (hss : StrsAt w A n ss) :
    Calls Tryd.prog 27 #[.agg #[.int .i64 p, .int .i64 c], .slice A n cap] w fun e w' => e = .returned (.bool (askB n ss p c)) ∧ Below w.heap.size w w' := by
  have hb0 := box_bel w (.cells #[.int .i64 p, .int .i64 c] 24)
  have HB := hid (Blk.new w 24 #[.int .i64 p, .int .i64 c])
  obtain ⟨hn, b, off, hlt, hA, hc⟩ := hss.below hb0
  have HK := hid hb0
  clear hb0 hss
  obtain ⟨w1, hw1⟩ : ∃ w1, w.alloc (.cells #[.int .i64 p, .int .i64 c] 24) = w1 := ⟨_, rfl⟩
  go_enter Tryd.func27, Tryd.ntmps27
  go_wp2
  rw [hw1] at HB HK hlt hc
  clear hw1
  go_loopw [9] (fun i wr => ∃ k : Nat, k ≤ n ∧ i = .int .i64 k ∧ Hid (∀ j, j < k → (!valB (ss j)) = false) ∧ wr = w1) (fun i _ => n - (intOf i).toNat)
  case atStart => exact ⟨0, by omega, rfl, hid (by omega), rfl⟩
  case round =>
    obtain ⟨k, hk, rfl, HN, rfl⟩ := hrel
    by_cases hkn : k < n
    · obtain rfl := hA (by omega)
      obtain ⟨hck, hsz⟩ := hc k hkn
      have HC := hid hc
      clear hc
      by_cases hl : (200 : Int) < ((ss k).size : Int)
      · have hf : valB (ss k) = false := by unfold valB; rw [decide_eq_false (by omega)]; rfl
        have HF : Hid (askB n ss p c = false) := hid (by
          unfold askB
          rw [anyB_true.2 ⟨k, hkn, by rw [hf]; rfl⟩]
          rfl)
        clear hf
        go_wp2_with (go_at_call 29; refine (long_any _ _).mono ?_; rintro e w' ⟨rfl, rfl⟩)
        go_ret
        exact ⟨ret_bool HF.out.symm, HK.out⟩
      · have d1 : decide ((200 : Int) < ((ss k).size : Int)) = false := by simpa using hl
        cases hv : valB (ss k)
        · have HF : Hid (askB n ss p c = false) := hid (by
            unfold askB
            rw [anyB_true.2 ⟨k, hkn, by rw [hv]; rfl⟩]
            rfl)
          have HV := hid hv
          have HS := hid hsz
          clear hv hl hsz
          go_wp2_with fail
          refine (long_any _ _).mono ?_
          rintro e w' ⟨rfl, rfl⟩
          rw [d1]
          go_wp2_with (go_at_call 21; refine (rValid_any _ _ HS.out).mono ?_; rintro e w' ⟨rfl, rfl⟩; rw [HV.out])
          go_ret
          exact ⟨ret_bool HF.out.symm, HK.out⟩
        · have HV := hid hv
          have HS := hid hsz
          clear hv hl hsz
          go_wp2_with fail
          refine (long_any _ _).mono ?_
          rintro e w' ⟨rfl, rfl⟩
          rw [d1]
          go_wp2_with (go_at_call 21; refine (rValid_any _ _ HS.out).mono ?_; rintro e w' ⟨rfl, rfl⟩; rw [HV.out])
          go_roundw
          case rel => exact ⟨k + 1, by omega, by go_num, hid (fun j hj => by (by_cases e : j = k; (subst e; rw [HV.out]; rfl); exact HN.out j (by omega))), trivial⟩
          case measure => simp [intOf]; omega
    · obtain rfl : k = n := by omega
      have HF : Hid (askB k ss p c = vcB p c) := hid (by
        unfold askB
        rw [anyB_false.2 HN.out]
        rfl)
      have c0 := HB.out.cell 0
      have c1 := HB.out.cell 1
      simp only [List.getElem?_toArray, List.getElem?_cons_zero, List.getElem?_cons_succ] at c0 c1
      clear hc
      go_wp2_with (go_at_call 19; refine (rVCosts_any _ _ _).mono ?_; rintro e w2 ⟨rfl, hb2⟩)
      go_ret
      exact ⟨ret_bool HF.out.symm, btr HK.out hb2 HK.out.size⟩
theorem askB_true {n : Nat} {ss : Nat → ByteArray} {p c : Int} (h : askB n ss p c = true) : (∀ i, i < n → valB (ss i) = true) ∧ vcB p c = true := by
  unfold askB at h
  rw [Bool.and_eq_true, Bool.not_eq_true'] at h
  exact ⟨fun i hi => by have := anyB_false.1 h.1 i hi; simpa using this, h.2⟩
theorem codeP_ok {s t : ByteArray} {p c : Int} (h1 : valB s = true) (h2 : valB t = true) (h3 : vcB p c = true) : codeP s t p c = 0 := by unfold codeP; rw [h1, h2, h3]; rfl
/-- the distance, for valid prints -/
theorem dist_ok (s t : ByteArray) (p c : Nat) (w : World) (h1 : valB s = true) (h2 : valB t = true) (h3 : vcB (p : Int) (c : Int) = true) :
    Calls Tryd.prog 28 #[.string s, .string t, .agg #[.int .i64 (p : Int), .int .i64 (c : Int)]] w fun e w' => e = .returned (.tuple #[.int .i64 (dst p c s.data.toList t.data.toList : Int), .int .i64 0]) ∧ Below w.heap.size w w' := by
  have hz := codeP_ok h1 h2 h3
  have s1 := (valB_true.1 h1).1
  have s2 := (valB_true.1 h2).1
  have h := dist_any s t (p : Int) (c : Int) w (by omega) (by omega)
  unfold numR at h
  rw [hz, if_pos rfl] at h
  exact h
end Go.Proofs.YtmhlgnhfbickdaaDoor
