/-
  The law WindowShifts: it returns true, whatever the input. Conditions: the hours lie in memory.
-/
import Derived.Test.YtfabpkcgdblnbaaV9
namespace Go.Proofs.Ytfabpkcgdblnbaa
set_option linter.unusedVariables false
set_option linter.unusedSimpArgs false
open Go.RowKit

/-- the hours of a window are the window's own -/
theorem hsL_own {p n : Nat} {h : Nat → Int} {most : Int} (hw : winB p n h most = true) : hsL (opn n h) p = (List.range n).map fun i => (h i).toNat := by
  have ha := winB_true.1 hw
  have hmono : ∀ i j, i < j → j < n → h i < h j := by
    intro i j hij
    induction j with
    | zero => omega
    | succ j ih =>
      intro hj
      have h1 := (ha.2 (j + 1) hj).2 (by omega)
      rw [Nat.add_sub_cancel] at h1
      rcases Nat.lt_or_ge i j with hlt | hge
      · have := ih hlt (by omega); omega
      · obtain rfl : i = j := by omega
        exact h1
  have hs1 : (hsL (opn n h) p).Pairwise (· < ·) := List.Pairwise.filter _ List.pairwise_lt_range
  have hs2 : ((List.range n).map fun i => (h i).toNat).Pairwise (· < ·) := by
    rw [List.pairwise_map]
    refine List.Pairwise.imp_of_mem ?_ List.pairwise_lt_range
    intro a b hma hmb hab
    have hb := List.mem_range.1 hmb
    have h1 := hmono a b hab hb
    have h2 := (ha.2 a (by omega)).1
    omega
  refine List.Perm.eq_of_pairwise (fun a b _ _ h1 h2 => absurd h1 (by omega)) hs1 hs2 ?_
  refine (List.perm_ext_iff_of_nodup (List.nodup_iff_pairwise_ne.2 (hs1.imp fun h => by omega)) (List.nodup_iff_pairwise_ne.2 (hs2.imp fun h => by omega))).2 fun a => ?_
  rw [mem_hsL, opn_true, List.mem_map]
  constructor
  · rintro ⟨_, i, hi, e⟩
    exact ⟨i, List.mem_range.2 hi, by rw [e]; rfl⟩
  · rintro ⟨i, hi, e⟩
    have hi := List.mem_range.1 hi
    have h2 := (ha.2 i hi).1
    exact ⟨by omega, i, hi, by omega⟩
theorem own_eq {p n : Nat} {h : Nat → Int} {most : Int} (hw : winB p n h most = true) : eqWin p (hsL (opn n h) p).length (hsF (opn n h) p) p n h = true := by
  have e := hsL_own hw
  refine eqWin_true.2 ⟨⟨rfl, by rw [e]; simp⟩, fun i hi => ?_⟩
  unfold hsF
  rw [e] at hi ⊢
  have hi2 : i < n := by simpa using hi
  have := ((winB_true.1 hw).2 i hi2).1
  simp [hi2]
  omega
theorem own_len {p n : Nat} {h : Nat → Int} {most : Int} (hw : winB p n h most = true) : (hsL (opn n h) p).length = n := by rw [hsL_own hw]; simp

theorem sh_zero (p : Nat) (x : Int) (hp : 0 < p) : p ∣ (((-x) % (p : Int)).toNat + (x % (p : Int)).toNat) := by
  have h1 := Int.emod_nonneg (-x) (b := (p : Int)) (by omega)
  have h2 := Int.emod_nonneg x (b := (p : Int)) (by omega)
  have : (p : Int) ∣ ((((-x) % (p : Int)).toNat + (x % (p : Int)).toNat : Nat) : Int) := by
    rw [Int.natCast_add, Int.toNat_of_nonneg h1, Int.toNat_of_nonneg h2]
    apply Int.dvd_of_emod_eq_zero
    rw [Int.emod_add_emod, Int.add_emod_emod, Int.add_left_neg, Int.zero_emod]
  exact Int.ofNat_dvd.1 this
theorem sh_back {p : Nat} (f : Nat → Bool) (x : Int) {j : Nat} (hj : j < p) : shTab p (shTab p f x) (-x) j = f j := by
  unfold shTab
  obtain ⟨c, hc⟩ := sh_zero p x (by omega)
  rw [Nat.mod_add_mod, Nat.add_assoc, hc, Nat.add_mul_mod_self_left, Nat.mod_eq_of_lt hj]
theorem shTab_congr {p : Nat} {f g : Nat → Bool} (x : Int) (hp : 0 < p) (h : ∀ j, j < p → f j = g j) (j : Nat) : shTab p f x j = shTab p g x j := h _ (Nat.mod_lt _ hp)
theorem sh_at {p : Nat} (f : Nat → Bool) (x : Int) (t : Nat) (hp : 0 < p) (ht : 0 ≤ (t : Int) + x) : shTab p f x (t % p) = f (((t : Int) + x).toNat % p) := by
  unfold shTab
  congr 1
  apply Int.ofNat_inj.1
  have h2 := Int.emod_nonneg x (b := (p : Int)) (by omega)
  rw [Int.natCast_emod, Int.natCast_add, Int.natCast_emod, Int.natCast_emod, Int.toNat_of_nonneg h2, Int.toNat_of_nonneg ht, Int.emod_add_emod, Int.add_emod_emod]

theorem wShift_yes (p : Nat) (A : Option Addr) (n c : Nat) (h : Nat → Int) (x : Int) (w : World) (hh : HoursAt w A n h) (hw : winB p n h 3600 = true) (h1 : -1000000 ≤ x) (h2 : x ≤ 1000000) :
    Calls Try.prog 52 #[.agg #[.int .i64 (p : Int), .slice A n c], .int .i64 x] w (PlainR w p (shTab p (opn n h) x)) := by
  refine (wShifted_any p A n c h x w hh).mono ?_
  rintro e w' ⟨A', c', rfl, hh', hb⟩
  have hv := (winB_true.1 hw).1
  have e1 : shiftOf p n h x = wvOk p (shTab p (opn n h) x) := by unfold shiftOf; rw [hw, btw_true h1 h2]; rfl
  rw [e1] at hh' ⊢
  exact ⟨A', c', _, _, rfl, hh'.at_, hb, PlW.mk' (by omega) (by omega)⟩
theorem wShift_back (p : Nat) (A : Option Addr) (l c : Nat) (k : Nat → Int) (f : Nat → Bool) (x : Int) (w : World) (hh : HoursAt w A l k) (hp : PlW p (shTab p f x) l k) (h1 : -1000000 ≤ x) (h2 : x ≤ 1000000) :
    Calls Try.prog 52 #[.agg #[.int .i64 (p : Int), .slice A l c], .int .i64 (-x)] w (PlainR w p f) := by
  refine (wShift_yes p A l c k (-x) w hh hp.win (by omega) (by omega)).mono ?_
  rintro e w' ⟨A', c', l', k', he, hh', hb, hp'⟩
  have hv := (winB_true.1 hp.win).1
  have hcg : ∀ j, j < p → shTab p (opn l k) (-x) j = f j := fun j hj => (shTab_congr (-x) (by omega) hp.at_ j).trans (sh_back f x hj)
  exact ⟨A', c', l', k', he, hh', hb, hp'.win, fun j hj => (hp'.at_ j hj).trans (hcg j hj), by rw [hp'.len, hsL_congr hcg], by rw [hp'.hrs, hsF_congr hcg]⟩

set_option maxRecDepth 100000 in
set_option maxHeartbeats 1000000 in
theorem shifts_skip (P : Int) (A : Option Addr) (n c : Nat) (h : Nat → Int) (x y : Int) (w : World) (hh : HoursAt w A n h)
    (hs : ((4000 : Int) < n ∨ winB P n h 3600 = false) ∨ (x < -1000000 ∨ 1000000 < x)) :
    Calls Try.prog 11 #[.agg #[.int .i64 P, .slice A n c], .int .i64 x, .int .u32 y] w fun e w' => e = .returned (.bool true) ∧ Below w.heap.size w w' := by
  have K := KW.new (P := P) (c := c) hh
  have hk0 := K.c0
  have hk1 := K.c1
  clear hh
  have key : (4000 : Int) < n ∨ (¬ (4000 : Int) < n ∧ winB P n h 3600 = false) ∨ (¬ (4000 : Int) < n ∧ winB P n h 3600 = true ∧ x < -1000000) ∨ (¬ (4000 : Int) < n ∧ winB P n h 3600 = true ∧ ¬ x < -1000000 ∧ 1000000 < x) := by
    cases h1 : winB P n h 3600 <;> simp [h1] at hs ⊢ <;> omega
  clear hs
  rcases key with h1 | ⟨h1, h2⟩ | ⟨h1, h2, h3⟩ | ⟨h1, h2, h3, h4⟩
  all_goals
    go_enter Try.func11, Try.ntmps11
    go_wp2_with (first
      | (go_at_call 30; refine (lWide_any _ _ _ _ _).mono ?_; rintro e w1 ⟨rfl, hb⟩; replace K := K.next hb; replace hk0 := K.c0; replace hk1 := K.c1; clear hb)
      | (go_at_call 35; refine (rWide_any _ _ _ _ _ _ K.hrs).mono ?_; rintro e w1 ⟨rfl, hb⟩; replace K := K.next hb; replace hk0 := K.c0; replace hk1 := K.c1; clear hb)
      | (go_at_call 19; refine (awake_any _).mono ?_; rintro e w2 ⟨rfl, hb⟩; replace K := K.next hb; clear hb hk0 hk1))
    go_ret
    exact ⟨rfl, K.bel⟩
set_option maxRecDepth 100000 in
set_option maxHeartbeats 2000000 in
theorem shifts_good (p : Nat) (A : Option Addr) (n c : Nat) (h : Nat → Int) (x : Int) (y : Nat) (w : World) (hh : HoursAt w A n h)
    (hl1 : ¬ (4000 : Int) < n) (hw : winB p n h 3600 = true) (hx1 : ¬ x < -1000000) (hx2 : ¬ 1000000 < x) (hy : (y : Int) ≤ 4294967295) :
    Calls Try.prog 11 #[.agg #[.int .i64 (p : Int), .slice A n c], .int .i64 x, .int .u32 (y : Int)] w fun e w' => e = .returned (.bool true) ∧ Below w.heap.size w w' := by
  have K := KW.new (P := (p : Int)) (c := c) hh
  have hk0 := K.c0
  have hk1 := K.c1
  clear hh
  have hv := (winB_true.1 hw).1
  have hE : (y : Int) % 900000000 = ((y % 900000000 : Nat) : Int) := rfl
  have hlt := Nat.mod_lt y (show 0 < 900000000 by omega)
  generalize y % 900000000 = z at *
  have HOWN := hid (own_eq hw)
  have HAT := hid (sh_at (opn n h) x (1000000 + z) (show 0 < p by omega) (by omega))
  have WS := hid fun W hA => wShift_yes p A n c h x W hA hw (by omega) (by omega)
  have HW := hid hw
  obtain ⟨u, hu⟩ := Int.eq_ofNat_of_zero_le (show 0 ≤ ((1000000 + z : Nat) : Int) + x by omega)
  rw [hu] at HAT
  have hu2 : (1000000 + (z : Int)) + x = (u : Int) := by rw [← hu]; omega
  have hu3 : (u : Int) ≤ 1000000000 := by omega
  clear hu hw
  go_enter Try.func11, Try.ntmps11
  go_wp2_with (first
    | (go_at_call 30; refine (lWide_any _ _ _ _ _).mono ?_; rintro e w1 ⟨rfl, hb⟩; replace K := K.next hb; replace hk0 := K.c0; replace hk1 := K.c1; clear hb)
    | (go_at_call 35; refine (rWide_any _ _ _ _ _ _ K.hrs).mono ?_; rintro e w1 ⟨rfl, hb⟩; rw [HW.out]; replace K := K.next hb; replace hk0 := K.c0; replace hk1 := K.c1; clear hb))
  refine (WS.out _ K.hrs).mono ?_
  rintro e w2 ⟨A2, c2, l2, k2, rfl, hh2, hb2, hp2⟩
  replace K := K.next hb2
  have Ka := hid (KW.put (Q := (p : Int)) (d := c2) K.bel hh2)
  have K' := hid (K.next (box_bel w2 (.cells #[.int .i64 (p : Int), .slice A2 l2 c2] 40)))
  have HP2 := hid hp2
  clear hb2 hh2 hp2 hk0 hk1
  go_wp2_with fail
  refine (wShift_back p _ _ _ _ (opn n h) x _ Ka.out.hrs HP2.out (by omega) (by omega)).mono ?_
  rintro e w3 ⟨A3, c3, l3, k3, rfl, hh3, hb3, hp3⟩
  replace K := K'.out.next hb3
  replace Ka := Ka.out.next hb3
  have Kb := hid (KW.put (Q := (p : Int)) (d := c3) K.bel hh3)
  have K'' := hid (K.next (box_bel w3 (.cells #[.int .i64 (p : Int), .slice A3 l3 c3] 40)))
  have Ka' := hid (Ka.next (box_bel w3 (.cells #[.int .i64 (p : Int), .slice A3 l3 c3] 40)))
  have HEQ : Hid (eqWin p l3 k3 p n h = true) := hid (by rw [hp3.len, hp3.hrs]; exact HOWN.out)
  have hk0 := K.c0
  have hk1 := K.c1
  have s1 := K.lt
  clear hb3 hh3 hp3 K' Ka
  go_wp2_with fail
  refine (equal_any _ _ _ _ _ _ _ _ _ _ _ Kb.out.hrs K''.out.hrs).mono ?_
  rintro e w4 ⟨rfl, hb4⟩
  rw [HEQ.out]
  replace K := K''.out.next hb4
  have Ka := Ka'.out.next hb4
  replace hk0 := K.c0
  replace hk1 := K.c1
  have ha0 := Ka.c0
  have ha1 := Ka.c1
  clear hb4 K'' Ka' Kb s1
  go_wp2_with fail
  have hyr := (HP2.out.at_ ((1000000 + z) % p) (Nat.mod_lt _ (by omega))).trans HAT.out
  have hca : (1000000 : Int) + (z : Int) = ((1000000 + z : Nat) : Int) := by omega
  rw [hca]
  refine (opens_at _ _ _ _ _ _ _ _ Ka.hrs HP2.out.win (by omega) hyr).mono ?_
  rintro e w5 ⟨rfl, hb5⟩
  replace K := K.next hb5
  replace hk0 := K.c0
  replace hk1 := K.c1
  clear hb5 Ka ha0 ha1 hyr hca
  go_wp2_with fail
  rw [show (u : Int).toNat = u from rfl] at HAT
  refine (opens_at _ _ _ _ _ _ _ _ K.hrs HW.out (by omega) rfl).mono ?_
  rintro e w6 ⟨rfl, hb6⟩
  replace K := K.next hb6
  clear hb6 hk0 hk1
  go_wp2_with (go_at_call 19; refine (awake_any _).mono ?_; rintro e w2 ⟨rfl, hb⟩; replace K := K.next hb; clear hb)
  go_ret
  exact ⟨rfl, K.bel⟩
theorem windowShifts_walk (P : Int) (A : Option Addr) (n c : Nat) (h : Nat → Int) (x y : Int) (w : World) (hh : HoursAt w A n h) (hx : (Lit.int .i64 x).wf = true) (hy : (Lit.int .u32 y).wf = true) :
    Calls Try.prog 11 #[.agg #[.int .i64 P, .slice A n c], .int .i64 x, .int .u32 y] w fun e w' => e = .returned (.bool true) ∧ Below w.heap.size w w' := by
  by_cases hs : ((4000 : Int) < n ∨ winB P n h 3600 = false) ∨ (x < -1000000 ∨ 1000000 < x)
  · exact shifts_skip P A n c h x y w hh hs
  · simp only [not_or, Bool.not_eq_false] at hs
    obtain ⟨⟨h1, h2⟩, h3, h4⟩ := hs
    have hv := (winB_true.1 h2).1
    obtain ⟨p, rfl⟩ := Int.eq_ofNat_of_zero_le (show 0 ≤ P by omega)
    obtain ⟨z, rfl, hz⟩ := u32_nat hy
    exact shifts_good p A n c h x z w hh h1 h2 h3 h4 (by omega)
end Go.Proofs.Ytfabpkcgdblnbaa
