/-
  Wide; Proves of the reference. Conditions: the table lies in memory.
-/
import Derived.Deep.LoopGhost
import Derived.Test.YtmhlgnhfbickdaaDoorP35
namespace Go.Proofs.YtmhlgnhfbickdaaDoor
set_option linter.unusedVariables false
set_option linter.unusedSimpArgs false
open Go.RowKit Go.Shelf

def wideB (n : Nat) (m : Nat → Nat) : Bool := anyB n (fun i => decide (60 < m i)) || decide (60 < n)
set_option maxHeartbeats 1000000 in
theorem wide_any (A : Option Addr) (n cap : Nat) (m : Nat → Nat) (f : Nat → Nat → Int) (w : World) (hl : TabAt w A n m f) :
    Calls Tryd.prog 18 #[.slice A n cap] w fun e w' => e = .returned (.bool (wideB n m)) ∧ w = w' := by
  obtain ⟨hn, b, off, hlt, hA, hc⟩ := hl
  have HC := hid hc
  clear hc
  go_enter Tryd.func18, Tryd.ntmps18
  go_wp2
  go_loop [7] (fun i => ∃ k : Nat, k ≤ n ∧ i = .int .i64 (k : Int) ∧ Hid (∀ j, j < k → decide (60 < m j) = false)) (fun i => n - (intOf i).toNat)
  case atStart => exact ⟨0, by omega, rfl, hid (by omega)⟩
  case round =>
    obtain ⟨k, hk, rfl, HN⟩ := hrel
    by_cases hkn : k < n
    · obtain rfl := hA (by omega)
      obtain ⟨Ai, ci, c0, hh⟩ := HC.out k hkn
      clear hh
      by_cases hv : 60 < m k
      · have HF : Hid (wideB n m = true) := hid (by unfold wideB; rw [anyB_true.2 ⟨k, hkn, decide_eq_true hv⟩]; rfl)
        have h60 : (60 : Int) < (m k : Int) := by omega
        clear hv
        go_wp2
        go_ret
        exact ⟨ret_bool HF.out.symm, rfl⟩
      · have HV := hid (decide_eq_false hv)
        have h60 : (m k : Int) ≤ 60 := by omega
        clear hv
        go_wp2
        go_round
        case rel => exact ⟨k + 1, by omega, by go_num, hid (fun j hj => by (by_cases e : j = k; (subst e; exact HV.out); exact HN.out j (by omega)))⟩
        case measure => simp [intOf]; omega
    · obtain rfl : k = n := by omega
      by_cases hv : 60 < k
      · have HF : Hid (wideB k m = true) := hid (by unfold wideB; rw [decide_eq_true hv, Bool.or_true])
        have h60 : (60 : Int) < (k : Int) := by omega
        clear hv
        go_wp2
        go_ret
        exact ⟨ret_bool HF.out.symm, rfl⟩
      · have HF : Hid (wideB k m = false) := hid (by unfold wideB; rw [anyB_false.2 HN.out, decide_eq_false hv]; rfl)
        have h60 : decide ((60 : Int) < (k : Int)) = false := by simp; omega
        clear hv
        go_wp2
        go_ret
        exact ⟨ret_bool HF.out.symm, rfl⟩

/-! ### Proves of the reference -/
def provV (s t : ByteArray) (p c : Int) (n : Nat) (m : Nat → Nat) (f : Nat → Nat → Int) (x : Int) : Bool × Int :=
  if codeP s t p c = 0 then (if btw 0 x 1000 && tabB s.size t.size n m f then (provB s.data.toList t.data.toList p c f x, 0) else (false, 2)) else (false, codeP s t p c)
def ProvR (w : World) (s t : ByteArray) (p c : Int) (n : Nat) (m : Nat → Nat) (f : Nat → Nat → Int) (x : Int) (e : Ending) (w' : World) : Prop :=
  e = .returned (.tuple #[.bool (provV s t p c n m f x).1, .int .i64 (provV s t p c n m f x).2]) ∧ Below w.heap.size w w'
theorem provV_bad {s t : ByteArray} {p c : Int} {n : Nat} {m : Nat → Nat} {f : Nat → Nat → Int} {x : Int} (h : codeP s t p c ≠ 0) : provV s t p c n m f x = (false, codeP s t p c) := if_neg h
theorem provV_arg {s t : ByteArray} {p c : Int} {n : Nat} {m : Nat → Nat} {f : Nat → Nat → Int} {x : Int} (h : codeP s t p c = 0) (h2 : (btw 0 x 1000 && tabB s.size t.size n m f) = false) : provV s t p c n m f x = (false, 2) := by unfold provV; rw [if_pos h, h2]; rfl
theorem provV_ok {s t : ByteArray} {p c : Int} {n : Nat} {m : Nat → Nat} {f : Nat → Nat → Int} {x : Int} (h : codeP s t p c = 0) (h1 : btw 0 x 1000 = true) (h2 : tabB s.size t.size n m f = true) : provV s t p c n m f x = (provB s.data.toList t.data.toList p c f x, 0) := by unfold provV; rw [if_pos h, h1, h2]; rfl
theorem tabB_eq (ns nt n : Nat) (m : Nat → Nat) (f : Nat → Nat → Int) : tabB ns nt n m f = (decide (n = ns + 1) && !anyB n fun i => badRow nt (m i) (f i)) := rfl
theorem tabB_row {ns nt n i : Nat} {m : Nat → Nat} {f : Nat → Nat → Int} (hi : i < n) (h : badRow nt (m i) (f i) = true) : tabB ns nt n m f = false := by
  rw [tabB_eq, anyB_true.2 ⟨i, hi, h⟩, Bool.not_true, Bool.and_false]
theorem tabB_ok {ns nt n : Nat} {m : Nat → Nat} {f : Nat → Nat → Int} (hn : n = ns + 1) (h : ∀ i, i < n → badRow nt (m i) (f i) = false) : tabB ns nt n m f = true := by
  rw [tabB_eq, decide_eq_true hn, anyB_false.2 h]
  rfl
end Go.Proofs.YtmhlgnhfbickdaaDoor
