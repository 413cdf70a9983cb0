/-
  several: the windows that are taken together, and whether all are open at an hour. Conditions: the rows lie in memory.
-/
import Derived.Test.YtfabpkcgdblnbaaV16
import Derived.Test.YtfabpkcgdblnbaaMathR
namespace Go.Proofs.Ytfabpkcgdblnbaa
set_option linter.unusedVariables false
set_option linter.unusedSimpArgs false
open Go.RowKit

/-- a row of rows of bools -/
def SevAt (w : World) (A : Option Addr) (n : Nat) (p : Nat → Nat) (f : Nat → Nat → Bool) : Prop :=
  n ≤ 4 ∧ ∃ b off, (0 < n → b < w.heap.size) ∧ (0 < n → A = some ⟨b, off, none⟩) ∧
    ∃ g : Nat → Nat, ∀ i, i < n → w.cell? ⟨b, off + i, none⟩ = some (.slice (some ⟨g i, 0, none⟩) (p i) (p i)) ∧ BoolsAt w (g i) 0 (p i) (f i) ∧ 1 ≤ p i ∧ p i ≤ 60
theorem SevAt.below {w w' : World} {A : Option Addr} {n : Nat} {p : Nat → Nat} {f : Nat → Nat → Bool} (H : SevAt w A n p f) (hb : Below w.heap.size w w') : SevAt w' A n p f := by
  obtain ⟨hn, b, off, hlt, hA, g, hc⟩ := H
  exact ⟨hn, b, off, fun h => Nat.lt_of_lt_of_le (hlt h) hb.size, hA, g, fun i hi => ⟨(hb.cell (p := ⟨b, off + i, none⟩) (hlt (by omega))).trans (hc i hi).1, (hc i hi).2.1.below hb, (hc i hi).2.2⟩⟩

theorem notAt_any (t b p c : Nat) (f : Nat → Bool) (x : Nat) (w : World) (hb : BoolsAt w b 0 p f) (hp : 1 ≤ p) (hp2 : p ≤ 60) (hx : w.cell? ⟨t, 0, none⟩ = some (.int .i64 (x : Int))) :
    Calls Try.prog 104 #[.slice (some ⟨b, 0, none⟩) p c, .pointer (some ⟨t, 0, none⟩)] w fun e w' => e = .returned (.bool (!f (x % p))) ∧ Below w.heap.size w w' := by
  have HB := hid hb
  clear hb
  go_enter Try.func104, Try.ntmps104
  go_wp2_with (go_at_call 73; refine (at_any _ _ _ _ _ _ HB.out hp (by omega) (by omega)).mono ?_; rintro e w' ⟨rfl, rfl⟩)
  go_ret
  exact ⟨rfl, Below.refl _ _⟩
/-- one of the windows is closed at hour x -/
def shutB (p : Nat → Nat) (f : Nat → Nat → Bool) (x : Nat) (i : Nat) : Bool := !f i (x % p i)
set_option maxHeartbeats 1000000 in
theorem idxO_any (A : Option Addr) (n c : Nat) (p : Nat → Nat) (f : Nat → Nat → Bool) (t x : Nat) (w : World) (H : SevAt w A n p f) (ht : w.cell? ⟨t, 0, none⟩ = some (.int .i64 (x : Int))) (htl : t < w.heap.size) :
    Calls Try.prog 107 #[.slice A n c, .func (.func 104) #[] #[.pointer (some ⟨t, 0, none⟩)]] w fun e w' => e = .returned (.int .i64 (idxB n (shutB p f x))) ∧ Below w.heap.size w w' := by
  have HH := hid H
  have hn := H.1
  clear H
  go_enter Try.func107, Try.ntmps107
  go_wp2_with fail
  go_loopw [8] (fun i wr => ∃ k : Nat, k ≤ n ∧ i = .int .i64 k ∧ Hid (∀ j, j < k → shutB p f x j = false) ∧ Below w.heap.size w wr) (fun i _ => n - (intOf i).toNat)
  case atStart => exact ⟨0, by omega, rfl, hid (by omega), Below.refl _ _⟩
  case round =>
    obtain ⟨k, hk, rfl, HN, hB⟩ := hrel
    by_cases hlt : k < n
    · have HW := hid (HH.out.below hB)
      obtain ⟨_, b, off, hb1, hA, g, hc⟩ := HW.out
      obtain rfl := hA (by omega)
      obtain ⟨hc0, hbk, hp1, hp2⟩ := hc k hlt
      have ht2 := hid ((hB.cell (p := ⟨t, 0, none⟩) htl).trans ht)
      have HK := hid hbk
      clear hc hA hbk
      cases hv : f k (x % p k)
      · have HI := hid (show idxB n (shutB p f x) = k from idxB_some hlt (by unfold shutB; rw [hv]; rfl) HN.out)
        have HV := hid hv
        clear hv
        go_wp2_with (go_at_call 104; refine (notAt_any _ _ _ _ _ _ _ HK.out hp1 hp2 ht2.out).mono ?_; rintro e w2 ⟨rfl, hb⟩; rw [HV.out])
        go_ret
        exact ⟨ret_int HI.out.symm, btr hB hb hB.size⟩
      · have HV := hid hv
        clear hv
        go_wp2_with (go_at_call 104; refine (notAt_any _ _ _ _ _ _ _ HK.out hp1 hp2 ht2.out).mono ?_; rintro e w2 ⟨rfl, hb⟩; rw [HV.out])
        go_roundw
        case rel => exact ⟨k + 1, by omega, by go_num, hid (fun j hj => by (by_cases e : j = k; (subst e; unfold shutB; rw [HV.out]; rfl); exact HN.out j (by omega))), btr hB hb hB.size⟩
        case measure => simp [intOf]; omega
    · obtain rfl : k = n := by omega
      have HE := hid (idxB_none HN.out)
      go_wp2
      go_ret
      exact ⟨ret_int HE.out.symm, hB⟩
theorem containsO_any (A : Option Addr) (n c : Nat) (p : Nat → Nat) (f : Nat → Nat → Bool) (t x : Nat) (w : World) (H : SevAt w A n p f) (ht : w.cell? ⟨t, 0, none⟩ = some (.int .i64 (x : Int))) (htl : t < w.heap.size) :
    Calls Try.prog 103 #[.slice A n c, .func (.func 104) #[] #[.pointer (some ⟨t, 0, none⟩)]] w fun e w' => e = .returned (.bool (anyB n (shutB p f x))) ∧ Below w.heap.size w w' := by
  have HH := hid (idxO_any A n c p f t x w H ht htl)
  have HE := hid (idxB_any (n := n) (f := shutB p f x))
  generalize idxB n (shutB p f x) = z at *
  go_enter Try.func103, Try.ntmps103
  go_wp2_with (go_at_call 107; refine HH.out.mono ?_; rintro e w1 ⟨rfl, hb1⟩)
  go_ret
  exact ⟨ret_bool (by rw [← HE.out]), hb1⟩
/-- all are open at hour x -/
def allB (n : Nat) (p : Nat → Nat) (f : Nat → Nat → Bool) (x : Nat) : Bool := !anyB n (shutB p f x)
theorem sevOpen_any (A : Option Addr) (n c : Nat) (p : Nat → Nat) (f : Nat → Nat → Bool) (per : Int) (x : Nat) (w : World) (H : SevAt w A n p f) :
    Calls Try.prog 89 #[.agg #[.slice A n c, .int .i64 per], .int .i64 (x : Int)] w fun e w' => e = .returned (.bool (allB n p f x)) ∧ Below w.heap.size w w' := by
  have H2 := hid ((H.below (box_bel w (.cells #[.slice A n c, .int .i64 per] 95))).below (box_bel _ (.cells #[.int .i64 (x : Int)] 3)))
  clear H
  go_enter Try.func89, Try.ntmps89
  go_wp2_with (go_at_call 103; refine (containsO_any _ _ _ _ _ _ x _ H2.out (by simp) (by simp)).mono ?_; rintro e w1 ⟨rfl, hb1⟩)
  go_ret
  exact ⟨rfl, box_trans _ (box_trans _ hb1)⟩
end Go.Proofs.Ytfabpkcgdblnbaa
