/-
  The law WindowSets: it returns true, whatever the input. Conditions: the hours lie in memory.
-/
import Derived.Test.YtfabpkcgdblnbaaV14
namespace Go.Proofs.Ytfabpkcgdblnbaa
set_option linter.unusedVariables false
set_option linter.unusedSimpArgs false
open Go.RowKit

set_option maxRecDepth 100000 in
set_option maxHeartbeats 1000000 in
theorem sets_skip (P : Int) (A : Option Addr) (n c : Nat) (h : Nat → Int) (Q : Int) (B : Option Addr) (m d : Nat) (k : Nat → Int) (x : Int) (w : World) (hh : HoursAt w A n h) (hk : HoursAt w B m k)
    (hs : winB P n h 60 = false ∨ winB Q m k 60 = false) :
    Calls Try.prog 17 #[.agg #[.int .i64 P, .slice A n c], .agg #[.int .i64 Q, .slice B m d], .int .u32 x] w fun e w' => e = .returned (.bool true) ∧ Below w.heap.size w w' := by
  have K := KW2.new (P := P) (Q := Q) (c := c) (d := d) hh hk
  have hk0 := K.v.c0
  have hk1 := K.v.c1
  have hk2 := K.u.c0
  have hk3 := K.u.c1
  clear hh hk
  have key : winB P n h 60 = false ∨ (winB P n h 60 = true ∧ winB Q m k 60 = false) := by
    cases h1 : winB P n h 60
    · exact .inl rfl
    · rw [h1] at hs; exact .inr ⟨rfl, hs.resolve_left (by simp)⟩
  clear hs
  rcases key with h1 | ⟨h1, h2⟩
  all_goals
    go_enter Try.func17, Try.ntmps17
    go_wp2_with (first
      | (go_at_call 47; refine (rValid_any _ _ _ _ _ _ (by first | exact K.v.hrs | exact K.u.hrs)).mono ?_; rintro e w1 ⟨rfl, hb⟩; replace K := K.next hb; replace hk0 := K.v.c0; replace hk1 := K.v.c1; replace hk2 := K.u.c0; replace hk3 := K.u.c1; clear hb)
      | (go_at_call 19; refine (awake_any _).mono ?_; rintro e w2 ⟨rfl, hb⟩; replace K := K.next hb; clear hb hk0 hk1 hk2 hk3))
    go_ret
    exact ⟨rfl, K.v.bel⟩

theorem plainR_congr {w : World} {p : Nat} {f g : Nat → Bool} (hc : ∀ j, j < p → f j = g j) {e : Ending} {w' : World} (h : PlainR w p f e w') : PlainR w p g e w' := by
  obtain ⟨A, c, l, k, he, hh, hb, hp⟩ := h
  exact ⟨A, c, l, k, he, hh, hb, hp.win, fun j hj => (hp.at_ j hj).trans (hc j hj), by rw [hp.len, hsL_congr hc], by rw [hp.hrs, hsF_congr hc]⟩
theorem not_yes (p : Nat) (A : Option Addr) (n c : Nat) (h : Nat → Int) (w : World) (hh : HoursAt w A n h) (hw : winB p n h 3600 = true) :
    Calls Try.prog 53 #[.agg #[.int .i64 (p : Int), .slice A n c]] w (PlainR w p (fun j => !opn n h j)) := by
  have hv := (winB_true.1 hw).1
  exact (wNot_any p A n c h w hh).mono fun e w' h' => winv_ok (p := p) (f := fun j => !opn n h j) (by rw [show notOf p n h = wvOk p (fun j => !opn n h j) by unfold notOf; rw [hw]; rfl] at h'; exact h') (by omega) (by omega)
theorem not_of (p : Nat) (A : Option Addr) (l c : Nat) (k : Nat → Int) (f : Nat → Bool) (w : World) (hh : HoursAt w A l k) (hp : PlW p f l k) :
    Calls Try.prog 53 #[.agg #[.int .i64 (p : Int), .slice A l c]] w (PlainR w p (fun j => !f j)) :=
  (not_yes p A l c k w hh hp.win).mono fun e w' h' => plainR_congr (fun j hj => by rw [hp.at_ j hj]) h'
theorem both_yes (p q : Nat) (A B : Option Addr) (n c m d : Nat) (h k : Nat → Int) (w : World) (hh : HoursAt w A n h) (hk : HoursAt w B m k) (hv : winB p n h 60 = true) (hu : winB q m k 60 = true) :
    Calls Try.prog 38 #[.agg #[.int .i64 (p : Int), .slice A n c], .agg #[.int .i64 (q : Int), .slice B m d]] w (PlainR w (Nat.lcm p q) (fun j => and (opn n h (j % p)) (opn m k (j % q)))) := by
  have hv1 := (winB_true.1 hv).1
  have hu1 := (winB_true.1 hu).1
  have hL1 : Nat.lcm p q ≤ 60 * 60 := Nat.le_trans (Nat.le_of_dvd (Nat.mul_pos (by omega) (by omega)) (Nat.lcm_dvd_mul p q)) (Nat.mul_le_mul (by omega) (by omega))
  have hL0 : 1 ≤ Nat.lcm p q := Nat.lcm_pos (by omega) (by omega)
  exact (wBoth_any p q A B n c m d h k w hh hk).mono fun e w' hw => winv_ok (p := Nat.lcm p q) (f := fun j => and (opn n h (j % p)) (opn m k (j % q))) (by rw [togOf_yes hv hu] at hw; exact hw) hL0 (by omega)
theorem either_yes (p q : Nat) (A B : Option Addr) (n c m d : Nat) (h k : Nat → Int) (w : World) (hh : HoursAt w A n h) (hk : HoursAt w B m k) (hv : winB p n h 60 = true) (hu : winB q m k 60 = true) :
    Calls Try.prog 40 #[.agg #[.int .i64 (p : Int), .slice A n c], .agg #[.int .i64 (q : Int), .slice B m d]] w (PlainR w (Nat.lcm p q) (fun j => or (opn n h (j % p)) (opn m k (j % q)))) := by
  have hv1 := (winB_true.1 hv).1
  have hu1 := (winB_true.1 hu).1
  have hL1 : Nat.lcm p q ≤ 60 * 60 := Nat.le_trans (Nat.le_of_dvd (Nat.mul_pos (by omega) (by omega)) (Nat.lcm_dvd_mul p q)) (Nat.mul_le_mul (by omega) (by omega))
  have hL0 : 1 ≤ Nat.lcm p q := Nat.lcm_pos (by omega) (by omega)
  exact (wEither_any p q A B n c m d h k w hh hk).mono fun e w' hw => winv_ok (p := Nat.lcm p q) (f := fun j => or (opn n h (j % p)) (opn m k (j % q))) (by rw [togOf_yes hv hu] at hw; exact hw) hL0 (by omega)
theorem PlW.sixty {p : Nat} {f : Nat → Bool} {l : Nat} {k : Nat → Int} (hp : PlW p f l k) (h : (p : Int) ≤ 60) : winB p l k 60 = true :=
  winB_true.2 ⟨⟨(winB_true.1 hp.win).1.1, h⟩, (winB_true.1 hp.win).2⟩
theorem same_of {p : Nat} {f : Nat → Bool} {l m : Nat} {k g : Nat → Int} (h1 : PlW p f l k) (h2 : PlW p f m g) : sameOf p l k p m g = (true, 0) := by
  rw [same_is h1.win h2.win]
  have hc : ∀ j, j < p → opn l k j = opn m g j := fun j hj => (h1.at_ j hj).trans (h2.at_ j hj).symm
  rw [plainP_congr hc]
  refine Prod.ext ?_ rfl
  exact eqB_true.2 ⟨rfl, fun j hj => hc j (Nat.lt_of_lt_of_le hj (plainP_le _ _))⟩

set_option maxRecDepth 100000 in
set_option maxHeartbeats 4000000 in
theorem sets_good (p : Nat) (A : Option Addr) (n c : Nat) (h : Nat → Int) (q : Nat) (B : Option Addr) (m d : Nat) (k : Nat → Int) (x : Nat) (w : World) (hh : HoursAt w A n h) (hk : HoursAt w B m k) (hx : (x : Int) ≤ 4294967295)
    (hv : winB p n h 60 = true) (hu : winB q m k 60 = true) :
    Calls Try.prog 17 #[.agg #[.int .i64 (p : Int), .slice A n c], .agg #[.int .i64 (q : Int), .slice B m d], .int .u32 (x : Int)] w fun e w' => e = .returned (.bool true) ∧ Below w.heap.size w w' := by
  have K := KW2.new (P := (p : Int)) (Q := (q : Int)) (c := c) (d := d) hh hk
  have hk0 := K.v.c0
  have hk1 := K.v.c1
  have hk2 := K.u.c0
  have hk3 := K.u.c1
  clear hh hk
  have hv1 := (winB_true.1 hv).1
  have hu1 := (winB_true.1 hu).1
  have hE : (x : Int) % 1000000000 = ((x % 1000000000 : Nat) : Int) := rfl
  have hlt := Nat.mod_lt x (show 0 < 1000000000 by omega)
  generalize x % 1000000000 = y at *
  have hL1 : Nat.lcm p q ≤ 60 * 60 := Nat.le_trans (Nat.le_of_dvd (Nat.mul_pos (by omega) (by omega)) (Nat.lcm_dvd_mul p q)) (Nat.mul_le_mul (by omega) (by omega))
  have hL0 : 1 ≤ Nat.lcm p q := Nat.lcm_pos (by omega) (by omega)
  have hd1 : p ∣ Nat.lcm p q := Nat.dvd_lcm_left p q
  have hd2 : q ∣ Nat.lcm p q := Nat.dvd_lcm_right p q
  have WB := hid fun W hA hB => both_yes p q A B n c m d h k W hA hB hv hu
  have WE := hid fun W hA hB => either_yes p q A B n c m d h k W hA hB hv hu
  have WN := hid fun W hA => not_yes p A n c h W hA (winB_more hv)
  have WM := hid fun W hA => not_yes q B m d k W hA (winB_more hu)
  have WX := hid (fun A B l c' l' d' k1 k2 W hA hB (h1 : PlW p (fun j => !opn n h j) l k1) (h2 : PlW q (fun j => !opn m k j) l' k2) => (both_yes p q A B l c' l' d' k1 k2 W hA hB (h1.sixty hv1.2) (h2.sixty hu1.2)).mono fun e w' h' => plainR_congr (g := fun j => !(or (opn n h (j % p)) (opn m k (j % q)))) (fun j hj => by rw [h1.at_ _ (Nat.mod_lt _ (by omega)), h2.at_ _ (Nat.mod_lt _ (by omega))]; cases opn n h (j % p) <;> cases opn m k (j % q) <;> rfl) h')
  have OW := hid (own_eq hv)
  have X1 := hid (Nat.mod_mod_of_dvd y hd1)
  have X2 := hid (Nat.mod_mod_of_dvd y hd2)
  have HV := hid hv
  have HU := hid hu
  clear hv hu hd1 hd2
  generalize hL : Nat.lcm p q = L at *
  clear hL
  go_enter Try.func17, Try.ntmps17
  go_wp2_with (go_at_call 47; refine (rValid_any _ _ _ _ _ _ (by first | exact K.v.hrs | exact K.u.hrs)).mono ?_; rintro e w1 ⟨rfl, hb⟩; (first | rw [HV.out] | rw [HU.out]); replace K := K.next hb; replace hk0 := K.v.c0; replace hk1 := K.v.c1; replace hk2 := K.u.c0; replace hk3 := K.u.c1; clear hb)
  have s1 := K.v.lt
  have s2 := K.u.lt
  refine (WB.out _ K.v.hrs K.u.hrs).mono ?_
  rintro e v0 ⟨A0, c0, l0, k0, rfl, hh0, hb, hp0⟩
  replace K := K.next hb
  have HKb := hid hp0
  replace hk0 := K.v.c0
  replace hk1 := K.v.c1
  replace hk2 := K.u.c0
  replace hk3 := K.u.c1
  replace s1 := K.v.lt
  replace s2 := K.u.lt
  have Kb' := KW.put (Q := (L : Int)) (d := c0) K.v.bel hh0
  replace K := K.next (box_bel v0 (.cells #[.int .i64 (L : Int), .slice A0 l0 c0] 40))
  have Kb := Kb'
  clear hb hh0 hp0 Kb'
  go_wp2_with fail
  refine (WE.out _ K.v.hrs K.u.hrs).mono ?_
  rintro e v1 ⟨A1, c1, l1, k1, rfl, hh1, hb, hp1⟩
  replace K := K.next hb
  replace Kb := Kb.next hb
  have HKe := hid hp1
  replace hk0 := K.v.c0
  replace hk1 := K.v.c1
  replace hk2 := K.u.c0
  replace hk3 := K.u.c1
  replace s1 := K.v.lt
  replace s2 := K.u.lt
  have fKb0 := Kb.c0
  have fKb1 := Kb.c1
  have fKbs := Kb.lt
  have Ke' := KW.put (Q := (L : Int)) (d := c1) K.v.bel hh1
  replace K := K.next (box_bel v1 (.cells #[.int .i64 (L : Int), .slice A1 l1 c1] 40))
  replace Kb := Kb.next (box_bel v1 (.cells #[.int .i64 (L : Int), .slice A1 l1 c1] 40))
  have Ke := Ke'
  clear hb hh1 hp1 Ke'
  go_wp2_with fail
  refine (WN.out _ K.v.hrs).mono ?_
  rintro e v2 ⟨A2, c2, l2, k2, rfl, hh2, hb, hp2⟩
  replace K := K.next hb
  replace Kb := Kb.next hb
  replace Ke := Ke.next hb
  have HKn := hid hp2
  replace hk0 := K.v.c0
  replace hk1 := K.v.c1
  replace hk2 := K.u.c0
  replace hk3 := K.u.c1
  replace s1 := K.v.lt
  replace s2 := K.u.lt
  have fKb0 := Kb.c0
  have fKb1 := Kb.c1
  have fKbs := Kb.lt
  have fKe0 := Ke.c0
  have fKe1 := Ke.c1
  have fKes := Ke.lt
  have Kn' := KW.put (Q := (p : Int)) (d := c2) K.v.bel hh2
  replace K := K.next (box_bel v2 (.cells #[.int .i64 (p : Int), .slice A2 l2 c2] 40))
  replace Kb := Kb.next (box_bel v2 (.cells #[.int .i64 (p : Int), .slice A2 l2 c2] 40))
  replace Ke := Ke.next (box_bel v2 (.cells #[.int .i64 (p : Int), .slice A2 l2 c2] 40))
  have Kn := Kn'
  clear hb hh2 hp2 Kn'
  go_wp2_with fail
  refine (WM.out _ K.u.hrs).mono ?_
  rintro e v3 ⟨A3, c3, l3, k3, rfl, hh3, hb, hp3⟩
  replace K := K.next hb
  replace Kb := Kb.next hb
  replace Ke := Ke.next hb
  replace Kn := Kn.next hb
  have HKm := hid hp3
  replace hk0 := K.v.c0
  replace hk1 := K.v.c1
  replace hk2 := K.u.c0
  replace hk3 := K.u.c1
  replace s1 := K.v.lt
  replace s2 := K.u.lt
  have fKb0 := Kb.c0
  have fKb1 := Kb.c1
  have fKbs := Kb.lt
  have fKe0 := Ke.c0
  have fKe1 := Ke.c1
  have fKes := Ke.lt
  have fKn0 := Kn.c0
  have fKn1 := Kn.c1
  have fKns := Kn.lt
  have Km' := KW.put (Q := (q : Int)) (d := c3) K.v.bel hh3
  replace K := K.next (box_bel v3 (.cells #[.int .i64 (q : Int), .slice A3 l3 c3] 40))
  replace Kb := Kb.next (box_bel v3 (.cells #[.int .i64 (q : Int), .slice A3 l3 c3] 40))
  replace Ke := Ke.next (box_bel v3 (.cells #[.int .i64 (q : Int), .slice A3 l3 c3] 40))
  replace Kn := Kn.next (box_bel v3 (.cells #[.int .i64 (q : Int), .slice A3 l3 c3] 40))
  have Km := Km'
  clear hb hh3 hp3 Km'
  go_wp2_with fail
  have leKb := HKb.out.le
  have leKe := HKe.out.le
  have leKn := HKn.out.le
  have leKm := HKm.out.le
  have fKm0 := Km.c0
  have fKm1 := Km.c1
  clear s1 s2 fKbs fKes fKns
  replace hk0 := K.v.c0
  replace hk1 := K.v.c1
  replace hk2 := K.u.c0
  replace hk3 := K.u.c1
  replace fKb0 := Kb.c0
  replace fKb1 := Kb.c1
  replace fKe0 := Ke.c0
  replace fKe1 := Ke.c1
  replace fKn0 := Kn.c0
  replace fKn1 := Kn.c1
  refine (lWide_any _ _ _ _ _).mono ?_
  rintro e w1 ⟨rfl, hb⟩
  replace K := K.next hb
  replace Kb := Kb.next hb
  replace Ke := Ke.next hb
  replace Kn := Kn.next hb
  replace Km := Km.next hb
  replace hk0 := K.v.c0
  replace hk1 := K.v.c1
  replace hk2 := K.u.c0
  replace hk3 := K.u.c1
  replace fKb0 := Kb.c0
  replace fKb1 := Kb.c1
  replace fKe0 := Ke.c0
  replace fKe1 := Ke.c1
  replace fKn0 := Kn.c0
  replace fKn1 := Kn.c1
  replace fKm0 := Km.c0
  replace fKm1 := Km.c1
  clear hb
  go_wp2_with (go_at_call 30; refine (lWide_any _ _ _ _ _).mono ?_; rintro e w1 ⟨rfl, hb⟩; replace K := K.next hb; replace Kb := Kb.next hb; replace Ke := Ke.next hb; replace Kn := Kn.next hb; replace Km := Km.next hb; replace hk0 := K.v.c0; replace hk1 := K.v.c1; replace hk2 := K.u.c0; replace hk3 := K.u.c1; replace fKb0 := Kb.c0; replace fKb1 := Kb.c1; replace fKe0 := Ke.c0; replace fKe1 := Ke.c1; replace fKn0 := Kn.c0; replace fKn1 := Kn.c1; replace fKm0 := Km.c0; replace fKm1 := Km.c1; clear hb)
  have R1 := HKb.out.at_ (y % L) (Nat.mod_lt _ hL0)
  have R2 := HKe.out.at_ (y % L) (Nat.mod_lt _ hL0)
  have R3 := HKn.out.at_ (y % p) (Nat.mod_lt _ (by omega))
  simp only [X1.out, X2.out] at R1 R2
  have R4 := hid R1
  have R5 := hid R2
  have R6 := hid R3
  clear R1 R2 R3
  refine (opens_at _ _ _ _ _ _ _ _ K.v.hrs (winB_more HV.out) (by omega) rfl).mono ?_
  rintro e w1 ⟨rfl, hb⟩
  replace K := K.next hb
  replace Kb := Kb.next hb
  replace Ke := Ke.next hb
  replace Kn := Kn.next hb
  replace Km := Km.next hb
  replace hk0 := K.v.c0
  replace hk1 := K.v.c1
  replace hk2 := K.u.c0
  replace hk3 := K.u.c1
  replace fKb0 := Kb.c0
  replace fKb1 := Kb.c1
  replace fKe0 := Ke.c0
  replace fKe1 := Ke.c1
  replace fKn0 := Kn.c0
  replace fKn1 := Kn.c1
  replace fKm0 := Km.c0
  replace fKm1 := Km.c1
  clear hb
  go_wp2_with fail
  refine (opens_at _ _ _ _ _ _ _ _ K.u.hrs (winB_more HU.out) (by omega) rfl).mono ?_
  rintro e w1 ⟨rfl, hb⟩
  replace K := K.next hb
  replace Kb := Kb.next hb
  replace Ke := Ke.next hb
  replace Kn := Kn.next hb
  replace Km := Km.next hb
  replace hk0 := K.v.c0
  replace hk1 := K.v.c1
  replace hk2 := K.u.c0
  replace hk3 := K.u.c1
  replace fKb0 := Kb.c0
  replace fKb1 := Kb.c1
  replace fKe0 := Ke.c0
  replace fKe1 := Ke.c1
  replace fKn0 := Kn.c0
  replace fKn1 := Kn.c1
  replace fKm0 := Km.c0
  replace fKm1 := Km.c1
  clear hb
  go_wp2_with fail
  refine (opens_at _ _ _ _ _ _ _ _ Kb.hrs HKb.out.win (by omega) R4.out).mono ?_
  rintro e w1 ⟨rfl, hb⟩
  replace K := K.next hb
  replace Kb := Kb.next hb
  replace Ke := Ke.next hb
  replace Kn := Kn.next hb
  replace Km := Km.next hb
  replace hk0 := K.v.c0
  replace hk1 := K.v.c1
  replace hk2 := K.u.c0
  replace hk3 := K.u.c1
  replace fKb0 := Kb.c0
  replace fKb1 := Kb.c1
  replace fKe0 := Ke.c0
  replace fKe1 := Ke.c1
  replace fKn0 := Kn.c0
  replace fKn1 := Kn.c1
  replace fKm0 := Km.c0
  replace fKm1 := Km.c1
  clear hb
  go_wp2_with fail
  refine (opens_at _ _ _ _ _ _ _ _ Ke.hrs HKe.out.win (by omega) R5.out).mono ?_
  rintro e w1 ⟨rfl, hb⟩
  replace K := K.next hb
  replace Kb := Kb.next hb
  replace Ke := Ke.next hb
  replace Kn := Kn.next hb
  replace Km := Km.next hb
  replace hk0 := K.v.c0
  replace hk1 := K.v.c1
  replace hk2 := K.u.c0
  replace hk3 := K.u.c1
  replace fKb0 := Kb.c0
  replace fKb1 := Kb.c1
  replace fKe0 := Ke.c0
  replace fKe1 := Ke.c1
  replace fKn0 := Kn.c0
  replace fKn1 := Kn.c1
  replace fKm0 := Km.c0
  replace fKm1 := Km.c1
  clear hb
  go_wp2_with fail
  refine (opens_at _ _ _ _ _ _ _ _ Kn.hrs HKn.out.win (by omega) R6.out).mono ?_
  rintro e w1 ⟨rfl, hb⟩
  replace K := K.next hb
  replace Kb := Kb.next hb
  replace Ke := Ke.next hb
  replace Kn := Kn.next hb
  replace Km := Km.next hb
  replace hk0 := K.v.c0
  replace hk1 := K.v.c1
  replace hk2 := K.u.c0
  replace hk3 := K.u.c1
  replace fKb0 := Kb.c0
  replace fKb1 := Kb.c1
  replace fKe0 := Ke.c0
  replace fKe1 := Ke.c1
  replace fKn0 := Kn.c0
  replace fKn1 := Kn.c1
  replace fKm0 := Km.c0
  replace fKm1 := Km.c1
  clear hb
  have NA := hid fun W hA => (not_of p A2 l2 c2 k2 (fun j => !opn n h j) W hA HKn.out).mono fun e w' h' => plainR_congr (g := opn n h) (fun j hj => by simp) h'
  have NE := hid fun W hA => not_of L A1 l1 c1 k1 (fun j => or (opn n h (j % p)) (opn m k (j % q))) W hA HKe.out
  clear R4 R5 R6 WB WE WN WM
  generalize opn n h (y % p) = X at *
  generalize opn m k (y % q) = Y at *
  cases X <;> cases Y
  all_goals
    go_wp2_with fail
    refine (NA.out _ Kn.hrs).mono ?_
    rintro e v4 ⟨A4, c4, l4, k4, rfl, hh4, hb, hp4⟩
    replace K := K.next hb
    replace Kb := Kb.next hb
    replace Ke := Ke.next hb
    replace Kn := Kn.next hb
    replace Km := Km.next hb
    have HKa := hid hp4
    replace hk0 := K.v.c0
    replace hk1 := K.v.c1
    replace hk2 := K.u.c0
    replace hk3 := K.u.c1
    have s1 := K.v.lt
    have s2 := K.u.lt
    have fKb0 := Kb.c0
    have fKb1 := Kb.c1
    have fKbs := Kb.lt
    have fKe0 := Ke.c0
    have fKe1 := Ke.c1
    have fKes := Ke.lt
    have fKn0 := Kn.c0
    have fKn1 := Kn.c1
    have fKns := Kn.lt
    have fKm0 := Km.c0
    have fKm1 := Km.c1
    have fKms := Km.lt
    have Ka' := KW.put (Q := (p : Int)) (d := c4) K.v.bel hh4
    replace K := K.next (box_bel v4 (.cells #[.int .i64 (p : Int), .slice A4 l4 c4] 40))
    replace Kb := Kb.next (box_bel v4 (.cells #[.int .i64 (p : Int), .slice A4 l4 c4] 40))
    replace Ke := Ke.next (box_bel v4 (.cells #[.int .i64 (p : Int), .slice A4 l4 c4] 40))
    replace Kn := Kn.next (box_bel v4 (.cells #[.int .i64 (p : Int), .slice A4 l4 c4] 40))
    replace Km := Km.next (box_bel v4 (.cells #[.int .i64 (p : Int), .slice A4 l4 c4] 40))
    have Ka := Ka'
    clear hb hh4 hp4 Ka'
    go_wp2_with fail
    refine (NE.out _ Ke.hrs).mono ?_
    rintro e v5 ⟨A5, c5, l5, k5, rfl, hh5, hb, hp5⟩
    replace K := K.next hb
    replace Kb := Kb.next hb
    replace Ke := Ke.next hb
    replace Kn := Kn.next hb
    replace Km := Km.next hb
    replace Ka := Ka.next hb
    have HKo := hid hp5
    replace hk0 := K.v.c0
    replace hk1 := K.v.c1
    replace hk2 := K.u.c0
    replace hk3 := K.u.c1
    have s1 := K.v.lt
    have s2 := K.u.lt
    have fKb0 := Kb.c0
    have fKb1 := Kb.c1
    have fKbs := Kb.lt
    have fKe0 := Ke.c0
    have fKe1 := Ke.c1
    have fKes := Ke.lt
    have fKn0 := Kn.c0
    have fKn1 := Kn.c1
    have fKns := Kn.lt
    have fKm0 := Km.c0
    have fKm1 := Km.c1
    have fKms := Km.lt
    have fKa0 := Ka.c0
    have fKa1 := Ka.c1
    have fKas := Ka.lt
    have Ko' := KW.put (Q := (L : Int)) (d := c5) K.v.bel hh5
    replace K := K.next (box_bel v5 (.cells #[.int .i64 (L : Int), .slice A5 l5 c5] 40))
    replace Kb := Kb.next (box_bel v5 (.cells #[.int .i64 (L : Int), .slice A5 l5 c5] 40))
    replace Ke := Ke.next (box_bel v5 (.cells #[.int .i64 (L : Int), .slice A5 l5 c5] 40))
    replace Kn := Kn.next (box_bel v5 (.cells #[.int .i64 (L : Int), .slice A5 l5 c5] 40))
    replace Km := Km.next (box_bel v5 (.cells #[.int .i64 (L : Int), .slice A5 l5 c5] 40))
    replace Ka := Ka.next (box_bel v5 (.cells #[.int .i64 (L : Int), .slice A5 l5 c5] 40))
    have Ko := Ko'
    clear hb hh5 hp5 Ko'
    go_wp2_with fail
    refine (WX.out _ _ _ _ _ _ _ _ _ Kn.hrs Km.hrs HKn.out HKm.out).mono ?_
    rintro e v6 ⟨A6, c6, l6, k6, rfl, hh6, hb, hp6⟩
    replace K := K.next hb
    replace Kb := Kb.next hb
    replace Ke := Ke.next hb
    replace Kn := Kn.next hb
    replace Km := Km.next hb
    replace Ka := Ka.next hb
    replace Ko := Ko.next hb
    have HKx := hid hp6
    replace hk0 := K.v.c0
    replace hk1 := K.v.c1
    replace hk2 := K.u.c0
    replace hk3 := K.u.c1
    have s1 := K.v.lt
    have s2 := K.u.lt
    have fKb0 := Kb.c0
    have fKb1 := Kb.c1
    have fKbs := Kb.lt
    have fKe0 := Ke.c0
    have fKe1 := Ke.c1
    have fKes := Ke.lt
    have fKn0 := Kn.c0
    have fKn1 := Kn.c1
    have fKns := Kn.lt
    have fKm0 := Km.c0
    have fKm1 := Km.c1
    have fKms := Km.lt
    have fKa0 := Ka.c0
    have fKa1 := Ka.c1
    have fKas := Ka.lt
    have fKo0 := Ko.c0
    have fKo1 := Ko.c1
    have fKos := Ko.lt
    have Kx' := KW.put (Q := (L : Int)) (d := c6) K.v.bel hh6
    replace K := K.next (box_bel v6 (.cells #[.int .i64 (L : Int), .slice A6 l6 c6] 40))
    replace Kb := Kb.next (box_bel v6 (.cells #[.int .i64 (L : Int), .slice A6 l6 c6] 40))
    replace Ke := Ke.next (box_bel v6 (.cells #[.int .i64 (L : Int), .slice A6 l6 c6] 40))
    replace Kn := Kn.next (box_bel v6 (.cells #[.int .i64 (L : Int), .slice A6 l6 c6] 40))
    replace Km := Km.next (box_bel v6 (.cells #[.int .i64 (L : Int), .slice A6 l6 c6] 40))
    replace Ka := Ka.next (box_bel v6 (.cells #[.int .i64 (L : Int), .slice A6 l6 c6] 40))
    replace Ko := Ko.next (box_bel v6 (.cells #[.int .i64 (L : Int), .slice A6 l6 c6] 40))
    have Kx := Kx'
    clear hb hh6 hp6 Kx'
    have fKx0 := Kx.c0
    have fKx1 := Kx.c1
    go_wp2_with fail
    refine (wSame_any _ _ _ _ _ _ _ _ _ _ _ Ko.hrs Kx.hrs).mono ?_
    rintro e w1 ⟨rfl, hb⟩
    rw [same_of HKo.out HKx.out]
    replace K := K.next hb
    replace Kb := Kb.next hb
    replace Ke := Ke.next hb
    replace Kn := Kn.next hb
    replace Km := Km.next hb
    replace Ka := Ka.next hb
    replace Ko := Ko.next hb
    replace Kx := Kx.next hb
    have HEQ : Hid (eqWin p l4 k4 p n h = true) := hid (by rw [HKa.out.len, HKa.out.hrs]; exact OW.out)
    have gk0 := K.v.c0
    have gk1 := K.v.c1
    have ga0 := Ka.c0
    have ga1 := Ka.c1
    clear hb
    go_wp2_with fail
    refine (equal_any _ _ _ _ _ _ _ _ _ _ _ Ka.hrs K.v.hrs).mono ?_
    rintro e w1 ⟨rfl, hb⟩
    rw [HEQ.out]
    replace K := K.next hb
    clear hb gk0 gk1 ga0 ga1
    go_wp2_with (go_at_call 19; refine (awake_any _).mono ?_; rintro e w2 ⟨rfl, hb⟩; replace K := K.next hb; clear hb)
    go_ret
    exact ⟨rfl, K.v.bel⟩
theorem windowSets_walk (P : Int) (A : Option Addr) (n c : Nat) (h : Nat → Int) (Q : Int) (B : Option Addr) (m d : Nat) (k : Nat → Int) (x : Int) (w : World) (hh : HoursAt w A n h) (hk : HoursAt w B m k) (hx : (Lit.int .u32 x).wf = true) :
    Calls Try.prog 17 #[.agg #[.int .i64 P, .slice A n c], .agg #[.int .i64 Q, .slice B m d], .int .u32 x] w fun e w' => e = .returned (.bool true) ∧ Below w.heap.size w w' := by
  by_cases hs : winB P n h 60 = false ∨ winB Q m k 60 = false
  · exact sets_skip P A n c h Q B m d k x w hh hk hs
  · simp only [not_or, Bool.not_eq_false] at hs
    obtain ⟨h3, h4⟩ := hs
    have hv := (winB_true.1 h3).1
    have hu := (winB_true.1 h4).1
    obtain ⟨p, rfl⟩ := Int.eq_ofNat_of_zero_le (show 0 ≤ P by omega)
    obtain ⟨q, rfl⟩ := Int.eq_ofNat_of_zero_le (show 0 ≤ Q by omega)
    obtain ⟨y, rfl, hy⟩ := u32_nat hx
    exact sets_good p A n c h q B m d k y w hh hk (by omega) h3 h4
end Go.Proofs.Ytfabpkcgdblnbaa
