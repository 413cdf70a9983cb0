/-
  isTable: the program's test of far numbers. Conditions: the table lies in memory.
-/
import Derived.Test.YtmhlgnhfbickdaaDoorP9
import Derived.Test.YtmhlgnhfbickdaaDoorMem
import Derived.Test.YtmhlgnhfbickdaaDoorMath5
namespace Go.Proofs.YtmhlgnhfbickdaaDoor
set_option linter.unusedVariables false
set_option linter.unusedSimpArgs false
open Go.RowKit Go.Shelf

def badN (n : Int) : Bool := !btw 0 n 1000
theorem badN_any (n : Int) (w : World) : Calls Tryd.prog 86 #[.int .i64 n] w fun e w' => e = .returned (.bool (badN n)) ∧ w = w' := by
  go_enter Tryd.func86, Tryd.ntmps86
  go_wp2_with fail
  refine (between_any _ _ _ _).mono ?_
  rintro e w' ⟨rfl, rfl⟩
  go_wp2
  go_ret
  exact ⟨ret_bool rfl, rfl⟩
set_option maxHeartbeats 1000000 in
theorem idxN_any (A : Option Addr) (n cap : Nat) (f : Nat → Int) (w : World) (hl : HoursAt w A n f) :
    Calls Tryd.prog 103 #[.slice A n cap, .func (.func 86) #[] #[]] w fun e w' => e = .returned (.int .i64 (idxB n (fun i => badN (f i)))) ∧ w = w' := by
  obtain ⟨hn, b, off, hlt, hA, hc⟩ := hl
  have HC := hid hc
  clear hc
  go_enter Tryd.func103, Tryd.ntmps103
  go_wp2
  go_loop [8] (fun i => ∃ k : Nat, k ≤ n ∧ i = .int .i64 (k : Int) ∧ Hid (∀ j, j < k → badN (f j) = false)) (fun i => n - (intOf i).toNat)
  case atStart => exact ⟨0, by omega, rfl, hid (by omega)⟩
  case round =>
    obtain ⟨k, hk, rfl, HN⟩ := hrel
    by_cases hkn : k < n
    · obtain rfl := hA (by omega)
      have c0 := HC.out k hkn
      cases hv : badN (f k)
      · have HV := hid hv
        clear hv
        go_wp2_with fail
        refine (badN_any _ _).mono ?_
        rintro e w' ⟨rfl, rfl⟩
        rw [HV.out]
        go_wp2
        go_round
        case rel => exact ⟨k + 1, by omega, by go_num, hid (fun j hj => by (by_cases e : j = k; (subst e; exact HV.out); exact HN.out j (by omega)))⟩
        case measure => simp [intOf]; omega
      · have HV := hid hv
        have HF := hid (idxB_some (f := fun i => badN (f i)) hkn hv HN.out)
        clear hv
        go_wp2_with fail
        refine (badN_any _ _).mono ?_
        rintro e w' ⟨rfl, rfl⟩
        rw [HV.out]
        go_wp2
        go_ret
        exact ⟨ret_int HF.out.symm, rfl⟩
    · obtain rfl : k = n := by omega
      have HF := hid (idxB_none (f := fun i => badN (f i)) HN.out)
      go_wp2
      go_ret
      exact ⟨ret_int HF.out.symm, rfl⟩
theorem conN_any (A : Option Addr) (n cap : Nat) (f : Nat → Int) (w : World) (hl : HoursAt w A n f) :
    Calls Tryd.prog 85 #[.slice A n cap, .func (.func 86) #[] #[]] w fun e w' => e = .returned (.bool (anyB n (fun i => badN (f i)))) ∧ w = w' := by
  have HL := hid hl
  have HI := hid (idxB_any (n := n) (f := fun i => badN (f i)))
  clear hl
  go_enter Tryd.func85, Tryd.ntmps85
  go_wp2_with fail
  refine (idxN_any A n cap f _ HL.out).mono ?_
  rintro e w' ⟨rfl, rfl⟩
  go_wp2
  go_ret
  exact ⟨ret_bool HI.out, rfl⟩
/-- a row that is none -/
def badRow (nt m : Nat) (f : Nat → Int) : Bool := !decide (m = nt + 1) || anyB m (fun i => badN (f i))
set_option maxHeartbeats 1000000 in
theorem badRow_any (A : Option Addr) (m cap bp : Nat) (f : Nat → Int) (s t : ByteArray) (p c : Int) (w : World) (ht : t.size ≤ 1000000) (hP : Blk w bp 72 #[.string s, .string t, .int .i64 p, .int .i64 c]) (hl : HoursAt w A m f) :
    Calls Tryd.prog 84 #[.slice A m cap, .pointer (some ⟨bp, 0, none⟩)] w fun e w' => e = .returned (.bool (badRow t.size m f)) ∧ w = w' := by
  have HL := hid hl
  have c1 := hP.cell 1
  simp only [List.getElem?_toArray, List.getElem?_cons_zero, List.getElem?_cons_succ] at c1
  have hmx := hl.1
  clear hl hP
  by_cases hm : m = t.size + 1
  · have HR : Hid (badRow t.size m f = anyB m (fun i => badN (f i))) := hid (by unfold badRow; rw [decide_eq_true hm]; rfl)
    have e1 : ((m : Int) != (t.size : Int) + 1) = false := by simp; omega
    clear hm
    go_enter Tryd.func84, Tryd.ntmps84
    go_wp2_with (go_at_call 85; refine (conN_any A m cap f _ HL.out).mono ?_; rintro e w' ⟨rfl, rfl⟩)
    go_ret
    exact ⟨ret_bool HR.out.symm, rfl⟩
  · have HR : Hid (badRow t.size m f = true) := hid (by unfold badRow; rw [decide_eq_false hm]; rfl)
    have e1 : ((m : Int) != (t.size : Int) + 1) = true := by simp; omega
    clear hm
    go_enter Tryd.func84, Tryd.ntmps84
    go_wp2
    go_ret
    exact ⟨ret_bool HR.out.symm, rfl⟩
set_option maxHeartbeats 1000000 in
theorem idxR_any (A : Option Addr) (n cap bp : Nat) (m : Nat → Nat) (f : Nat → Nat → Int) (s t : ByteArray) (p c : Int) (w : World) (ht : t.size ≤ 1000000) (hP : Blk w bp 72 #[.string s, .string t, .int .i64 p, .int .i64 c]) (hl : TabAt w A n m f) :
    Calls Tryd.prog 102 #[.slice A n cap, .func (.func 84) #[] #[.pointer (some ⟨bp, 0, none⟩)]] w fun e w' => e = .returned (.int .i64 (idxB n (fun i => badRow t.size (m i) (f i)))) ∧ w = w' := by
  obtain ⟨hn, b, off, hlt, hA, hc⟩ := hl
  have HC := hid hc
  have HP := hid hP
  clear hc hP
  go_enter Tryd.func102, Tryd.ntmps102
  go_wp2
  go_loop [8] (fun i => ∃ k : Nat, k ≤ n ∧ i = .int .i64 (k : Int) ∧ Hid (∀ j, j < k → badRow t.size (m j) (f j) = false)) (fun i => n - (intOf i).toNat)
  case atStart => exact ⟨0, by omega, rfl, hid (by omega)⟩
  case round =>
    obtain ⟨k, hk, rfl, HN⟩ := hrel
    by_cases hkn : k < n
    · obtain rfl := hA (by omega)
      obtain ⟨Ai, ci, c0, hh⟩ := HC.out k hkn
      have HH := hid hh
      clear hh
      cases hv : badRow t.size (m k) (f k)
      · have HV := hid hv
        clear hv
        go_wp2_with fail
        refine (badRow_any Ai (m k) ci bp (f k) s t p c _ ht HP.out HH.out).mono ?_
        rintro e w' ⟨rfl, rfl⟩
        rw [HV.out]
        go_wp2
        go_round
        case rel => exact ⟨k + 1, by omega, by go_num, hid (fun j hj => by (by_cases e : j = k; (subst e; exact HV.out); exact HN.out j (by omega)))⟩
        case measure => simp [intOf]; omega
      · have HV := hid hv
        have HF := hid (idxB_some (f := fun i => badRow t.size (m i) (f i)) hkn hv HN.out)
        clear hv
        go_wp2_with fail
        refine (badRow_any Ai (m k) ci bp (f k) s t p c _ ht HP.out HH.out).mono ?_
        rintro e w' ⟨rfl, rfl⟩
        rw [HV.out]
        go_wp2
        go_ret
        exact ⟨ret_int HF.out.symm, rfl⟩
    · obtain rfl : k = n := by omega
      have HF := hid (idxB_none (f := fun i => badRow t.size (m i) (f i)) HN.out)
      go_wp2
      go_ret
      exact ⟨ret_int HF.out.symm, rfl⟩
theorem conR_any (A : Option Addr) (n cap bp : Nat) (m : Nat → Nat) (f : Nat → Nat → Int) (s t : ByteArray) (p c : Int) (w : World) (ht : t.size ≤ 1000000) (hP : Blk w bp 72 #[.string s, .string t, .int .i64 p, .int .i64 c]) (hl : TabAt w A n m f) :
    Calls Tryd.prog 83 #[.slice A n cap, .func (.func 84) #[] #[.pointer (some ⟨bp, 0, none⟩)]] w fun e w' => e = .returned (.bool (anyB n (fun i => badRow t.size (m i) (f i)))) ∧ w = w' := by
  have HL := hid hl
  have HP := hid hP
  have HI := hid (idxB_any (n := n) (f := fun i => badRow t.size (m i) (f i)))
  clear hl hP
  go_enter Tryd.func83, Tryd.ntmps83
  go_wp2_with fail
  refine (idxR_any A n cap bp m f s t p c _ ht HP.out HL.out).mono ?_
  rintro e w' ⟨rfl, rfl⟩
  go_wp2
  go_ret
  exact ⟨ret_bool HI.out, rfl⟩
/-- (pair).isTable -/
theorem isTable_any (A : Option Addr) (n cap : Nat) (m : Nat → Nat) (f : Nat → Nat → Int) (s t : ByteArray) (p c : Int) (w : World) (hs : s.size ≤ 1000000) (ht : t.size ≤ 1000000) (hl : TabAt w A n m f) :
    Calls Tryd.prog 62 #[.agg #[.string s, .string t, .int .i64 p, .int .i64 c], .slice A n cap] w fun e w' => e = .returned (.bool (tabB s.size t.size n m f)) ∧ Below w.heap.size w w' := by
  have hb0 := hid (box_bel w (.cells #[.string s, .string t, .int .i64 p, .int .i64 c] 72))
  have HP := hid (Blk.new w 72 #[.string s, .string t, .int .i64 p, .int .i64 c])
  have HL := hid (hl.below hb0.out)
  have hmx := hl.1
  clear hl
  by_cases hn : n = s.size + 1
  · have HR : Hid (tabB s.size t.size n m f = !anyB n (fun i => badRow t.size (m i) (f i))) := hid (by unfold tabB; rw [decide_eq_true hn]; rfl)
    have e1 : (n : Int) = (s.size : Int) + 1 := by omega
    have e2 : ((n : Int) == (s.size : Int) + 1) = true := by simp; omega
    clear hn e1
    go_enter Tryd.func62, Tryd.ntmps62
    go_wp2_with (go_at_call 83; refine (conR_any A n cap w.heap.size m f s t p c _ ht HP.out HL.out).mono ?_; rintro e w' ⟨rfl, rfl⟩)
    go_ret
    exact ⟨ret_bool HR.out.symm, hb0.out⟩
  · have HR : Hid (tabB s.size t.size n m f = false) := hid (by unfold tabB; rw [decide_eq_false hn]; rfl)
    have e2 : ((n : Int) == (s.size : Int) + 1) = false := by simp; omega
    clear hn
    go_enter Tryd.func62, Tryd.ntmps62
    go_wp2
    go_ret
    exact ⟨ret_bool HR.out.symm, hb0.out⟩
end Go.Proofs.YtmhlgnhfbickdaaDoor
