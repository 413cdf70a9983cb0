/-
  The law WindowParts: it returns true, whatever the input. Conditions: the hours lie in memory.
-/
import Derived.Test.YtfabpkcgdblnbaaMathC
import Derived.Test.YtfabpkcgdblnbaaV12
import Derived.Test.YtfabpkcgdblnbaaV13
namespace Go.Proofs.Ytfabpkcgdblnbaa
set_option linter.unusedVariables false
set_option linter.unusedSimpArgs false
open Go.RowKit

/-- a ratio that is c of p -/
structure PR (N D : Int) (c p : Nat) : Prop where
  n0 : 0 ≤ N
  nd : N ≤ D
  d1 : 1 ≤ D
  d2 : D ≤ 3600
  eq : N * p = c * D
theorem PR.of (c p : Nat) (hc : c ≤ p) (hp : 0 < p) (hp2 : p ≤ 3600) : PR ((c : Int) / (Int.gcd p c : Int)) ((p : Int) / (Int.gcd p c : Int)) c p := by
  have hg1 := gcd_pos p c (by omega)
  have hg2 := gcd_le p c (by omega)
  obtain ⟨u, hu⟩ : (Int.gcd p c : Int) ∣ p := Int.gcd_dvd_left ..
  obtain ⟨v, hv⟩ : (Int.gcd p c : Int) ∣ c := Int.gcd_dvd_right ..
  have e1 : (p : Int) / (Int.gcd p c : Int) = u := Int.ediv_eq_of_eq_mul_right (by omega) hu
  have e2 : (c : Int) / (Int.gcd p c : Int) = v := Int.ediv_eq_of_eq_mul_right (by omega) hv
  rw [e1, e2]
  generalize (Int.gcd p c : Int) = g at *
  have hu0 : 1 ≤ u := by
    rcases Int.lt_or_le 0 u with h | h
    · exact h
    · have := Int.mul_nonpos_of_nonneg_of_nonpos (show 0 ≤ g by omega) h; omega
  have hup : u ≤ p := by rw [← e1]; exact Int.ediv_le_self _ (by omega)
  refine ⟨by rw [← e2]; exact Int.ediv_nonneg (by omega) (by omega), ?_, hu0, by omega, ?_⟩
  · rw [← e1, ← e2]; exact Int.ediv_le_ediv (by omega) (by omega)
  · rw [hu, hv]; grind
theorem pr_one {aN aD cN cD : Int} {n c p : Nat} (ha : PR aN aD n p) (hc : PR cN cD c p) (hp : 0 < p) (h : c + n = p) : aN * cD + cN * aD = aD * cD := by
  have e1 := ha.eq
  have e2 := hc.eq
  have e3 : (c : Int) + n = p := by omega
  refine Int.eq_of_mul_eq_mul_right (show (p : Int) ≠ 0 by omega) ?_
  generalize (p : Int) = P at *
  generalize (n : Int) = Q at *
  generalize (c : Int) = R at *
  grind
theorem pr_sum {aN aD bN bD dN dD xN xD : Int} {n m p q L u v cb ce : Nat} (ha : PR aN aD n p) (hb : PR bN bD m q) (hd : PR dN dD cb L) (hx : PR xN xD ce L) (hL : 0 < L)
    (h1 : L = p * u) (h2 : L = q * v) (h : cb + ce = u * n + v * m) : (dN * xD + xN * dD) * aD * bD = (aN * bD + bN * aD) * dD * xD := by
  have e1 := ha.eq
  have e2 := hb.eq
  have e3 := hd.eq
  have e4 := hx.eq
  have g1 : (L : Int) = p * u := by rw [h1]; exact Int.natCast_mul _ _
  have g2 : (L : Int) = q * v := by rw [h2]; exact Int.natCast_mul _ _
  have g3 : (cb : Int) + ce = u * n + v * m := by rw [← Int.natCast_mul, ← Int.natCast_mul]; omega
  refine Int.eq_of_mul_eq_mul_right (show (L : Int) ≠ 0 by omega) ?_
  clear h1 h2 h ha hb hd hx hL
  generalize (L : Int) = L' at *
  generalize (p : Int) = p' at *
  generalize (q : Int) = q' at *
  generalize (u : Int) = u' at *
  generalize (v : Int) = v' at *
  generalize (n : Int) = n' at *
  generalize (m : Int) = m' at *
  generalize (cb : Int) = cb' at *
  generalize (ce : Int) = ce' at *
  have s1 : (dN * xD + xN * dD) * aD * bD * L' = (cb' + ce') * (dD * xD * aD * bD) := by
    have : (dN * xD + xN * dD) * aD * bD * L' = (dN * L' * xD + xN * L' * dD) * aD * bD := by grind
    rw [this, e3, e4]; grind
  have s2 : (aN * bD + bN * aD) * dD * xD * L' = (u' * n' + v' * m') * (dD * xD * aD * bD) := by
    have : (aN * bD + bN * aD) * dD * xD * L' = (aN * L' * bD + bN * L' * aD) * dD * xD := by grind
    rw [this]
    have t1 : aN * L' = u' * n' * aD := by rw [g1]; have : aN * (p' * u') = aN * p' * u' := by grind
                                           rw [this, e1]; grind
    have t2 : bN * L' = v' * m' * bD := by rw [g2]; have : bN * (q' * v') = bN * q' * v' := by grind
                                           rw [this, e2]; grind
    rw [t1, t2]; grind
  rw [s1, s2, g3]
theorem pr_pair {aN aD bN bD dN dD : Int} {n m p q L cb : Nat} (ha : PR aN aD n p) (hb : PR bN bD m q) (hd : PR dN dD cb L) (hL : 0 < L)
    (h1 : L = p * q) (h : cb = n * m) : dN * aD * bD = aN * bN * dD := by
  have e1 := ha.eq
  have e2 := hb.eq
  have e3 := hd.eq
  have g1 : (L : Int) = p * q := by rw [h1]; exact Int.natCast_mul _ _
  have g3 : (cb : Int) = n * m := by rw [h]; exact Int.natCast_mul _ _
  refine Int.eq_of_mul_eq_mul_right (show (L : Int) ≠ 0 by omega) ?_
  clear h1 h ha hb hd hL
  generalize (L : Int) = L' at *
  generalize (p : Int) = p' at *
  generalize (q : Int) = q' at *
  generalize (n : Int) = n' at *
  generalize (m : Int) = m' at *
  generalize (cb : Int) = cb' at *
  have s1 : dN * aD * bD * L' = (dN * L') * (aD * bD) := by grind
  have s2 : aN * bN * dD * L' = (aN * p') * (bN * q') * dD := by rw [g1]; grind
  rw [s1, s2, e1, e2, e3, g3]; grind

def PartR (w : World) (l p : Nat) (e : Ending) (w' : World) : Prop :=
  ∃ N D : Int, e = .returned (.tuple #[.agg #[.int .i64 N, .int .i64 D], .bool true]) ∧ PR N D l p ∧ Below w.heap.size w w'
theorem wPart_yes (p : Nat) (A : Option Addr) (l c : Nat) (k : Nat → Int) (w : World) (hh : HoursAt w A l k) (hw : winB p l k 3600 = true) (hl : l ≤ p) :
    Calls Try.prog 48 #[.agg #[.int .i64 (p : Int), .slice A l c]] w fun e w' => ∃ N D : Int, e = .returned (.tuple #[.agg #[.int .i64 N, .int .i64 D], .int .i64 0]) ∧ PR N D l p ∧ Below w.heap.size w w' := by
  refine (wPart_any p A l c k w hh).mono ?_
  rintro e w' ⟨rfl, hb⟩
  have hv := (winB_true.1 hw).1
  have e1 : partOf p l k = ((l : Int) / (Int.gcd p l : Int), (p : Int) / (Int.gcd p l : Int), 0) := by unfold partOf; rw [hw]; rfl
  rw [e1]
  exact ⟨_, _, rfl, PR.of l p hl (by omega) (by omega), hb⟩
set_option maxRecDepth 100000 in
set_option maxHeartbeats 1000000 in
theorem part_any (p : Nat) (A : Option Addr) (l c : Nat) (k : Nat → Int) (w : World) (hh : HoursAt w A l k) (hw : winB p l k 3600 = true) (hl : l ≤ p) :
    Calls Try.prog 54 #[.agg #[.int .i64 (p : Int), .slice A l c]] w (PartR w l p) := by
  have HP := hid (wPart_yes p A l c k _ ((hh.alloc (.cells #[.int .i64 (p : Int), .slice A l c] 40)).alloc (.cells #[.int .i64 0, .int .i64 0] 54)) hw hl)
  have R0 : Hid (Blk ((w.alloc (.cells #[.int .i64 (p : Int), .slice A l c] 40)).alloc (.cells #[.int .i64 0, .int .i64 0] 54)) (w.heap.size + 1) 54 #[.int .i64 0, .int .i64 0]) := hid (by
    have := Blk.new (w.alloc (.cells #[.int .i64 (p : Int), .slice A l c] 40)) 54 #[.int .i64 0, .int .i64 0]
    simpa using this)
  go_enter Try.func54, Try.ntmps54
  go_wp2_with (go_at_call 48; refine (HP.out).mono ?_; rintro e w1 ⟨N, D, rfl, hP, hb⟩)
  have R1 := R0.out.below' hb
  have L1 := hid (box_trans _ (box_trans _ hb))
  have s1 : w.heap.size + 1 < w1.heap.size := R1.lt
  obtain ⟨n0, nd, d1, d2, heq⟩ := hP
  have HEQ := hid heq
  have hd0 := blk_c0 R1
  have hd1 := blk_c1 R1
  have hf0 := R1.frozen 0
  have hf1 := R1.frozen 1
  clear heq hb
  go_region
  go_wp2
  refine bodyPost_ret (v := .tuple #[.agg #[.int .i64 N, .int .i64 D], .bool true]) (by simp [results, Try.results54, go_sem, hd0, hd1, hf0, hf1, s1]) rfl ⟨N, D, rfl, ⟨n0, nd, d1, d2, HEQ.out⟩, ?_⟩
  exact ((bel_set2 L1.out (by omega) _ _).alloc (by rw [size_set2]; omega) _).drew
theorem winv_ok {w : World} {p : Nat} {f : Nat → Bool} {e : Ending} {w' : World} (h : WinV w (wvOk p f) e w') (h1 : 1 ≤ p) (h2 : (p : Int) ≤ 3600) : PlainR w p f e w' := by
  obtain ⟨A', c', rfl, hh', hb⟩ := h
  exact ⟨A', c', _, _, rfl, hh'.at_, hb, PlW.mk' h1 h2⟩
theorem winB_more {P : Int} {n : Nat} {h : Nat → Int} (hw : winB P n h 60 = true) : winB P n h 3600 = true :=
  winB_true.2 ⟨⟨(winB_true.1 hw).1.1, by have := (winB_true.1 hw).1.2; omega⟩, (winB_true.1 hw).2⟩
/-- a box of a ratio -/
structure KQ (w : World) (g : Nat) (N D : Int) : Prop where
  lt : g < w.heap.size
  c0 : w.cell? ⟨g, 0, none⟩ = some (.int .i64 N)
  c1 : w.cell? ⟨g, 1, none⟩ = some (.int .i64 D)
theorem KQ.next {w w' : World} {g : Nat} {N D : Int} (K : KQ w g N D) (hb : Below w.heap.size w w') : KQ w' g N D :=
  ⟨Nat.lt_of_lt_of_le K.lt hb.size, (hb.cell (p := ⟨g, 0, none⟩) K.lt).trans K.c0, (hb.cell (p := ⟨g, 1, none⟩) K.lt).trans K.c1⟩
theorem KQ.put (w : World) (N D : Int) : KQ (w.alloc (.cells #[.int .i64 N, .int .i64 D] 54)) w.heap.size N D :=
  ⟨by simp, blk_c0 (Blk.new _ _ _), blk_c1 (Blk.new _ _ _)⟩
theorem mulb {x y a b : Int} (h1 : 0 ≤ x) (h2 : x ≤ a) (h3 : 0 ≤ y) (h4 : y ≤ b) : 0 ≤ x * y ∧ x * y ≤ a * b :=
  ⟨Int.mul_nonneg h1 h3, Int.mul_le_mul h2 h4 h3 (by omega)⟩
theorem PlW.le {q : Nat} {f : Nat → Bool} {l : Nat} {k : Nat → Int} (h : PlW q f l k) : l ≤ q := by rw [h.len]; exact hsL_len f q
theorem no_common {p q : Nat} (hp : 0 < p) (hp2 : p ≤ 60) (h : ∀ e, 2 ≤ e → e < 61 → ¬ (p % e = 0 ∧ q % e = 0)) : Nat.gcd p q = 1 := by
  have h1 : Nat.gcd p q ∣ p := Nat.gcd_dvd_left ..
  have h2 : Nat.gcd p q ∣ q := Nat.gcd_dvd_right ..
  have h3 := Nat.le_of_dvd hp h1
  have h4 := Nat.gcd_pos_of_pos_left q hp
  by_cases hg : Nat.gcd p q = 1
  · exact hg
  · exact absurd ⟨Nat.mod_eq_zero_of_dvd h1, Nat.mod_eq_zero_of_dvd h2⟩ (h _ (by omega) (by omega))

set_option maxRecDepth 100000 in
set_option maxHeartbeats 1000000 in
theorem parts_skip (P : Int) (A : Option Addr) (n c : Nat) (h : Nat → Int) (Q : Int) (B : Option Addr) (m d : Nat) (k : Nat → Int) (w : World) (hh : HoursAt w A n h) (hk : HoursAt w B m k)
    (hs : winB P n h 60 = false ∨ winB Q m k 60 = false) :
    Calls Try.prog 12 #[.agg #[.int .i64 P, .slice A n c], .agg #[.int .i64 Q, .slice B m d]] w fun e w' => e = .returned (.bool true) ∧ Below w.heap.size w w' := by
  have K := KW2.new (P := P) (Q := Q) (c := c) (d := d) hh hk
  have hk0 := K.v.c0
  have hk1 := K.v.c1
  have hk2 := K.u.c0
  have hk3 := K.u.c1
  clear hh hk
  have key : winB P n h 60 = false ∨ (winB P n h 60 = true ∧ winB Q m k 60 = false) := by
    cases h1 : winB P n h 60
    · exact .inl rfl
    · rw [h1] at hs; exact .inr ⟨rfl, hs.resolve_left (by simp)⟩
  clear hs
  rcases key with h1 | ⟨h1, h2⟩
  all_goals
    go_enter Try.func12, Try.ntmps12
    go_wp2_with (first
      | (go_at_call 47; refine (rValid_any _ _ _ _ _ _ (by first | exact K.v.hrs | exact K.u.hrs)).mono ?_; rintro e w1 ⟨rfl, hb⟩; replace K := K.next hb; replace hk0 := K.v.c0; replace hk1 := K.v.c1; replace hk2 := K.u.c0; replace hk3 := K.u.c1; clear hb)
      | (go_at_call 19; refine (awake_any _).mono ?_; rintro e w2 ⟨rfl, hb⟩; replace K := K.next hb; clear hb hk0 hk1 hk2 hk3))
    go_ret
    exact ⟨rfl, K.v.bel⟩

set_option maxRecDepth 100000 in
set_option maxHeartbeats 4000000 in
theorem parts_good (p : Nat) (A : Option Addr) (n c : Nat) (h : Nat → Int) (q : Nat) (B : Option Addr) (m d : Nat) (k : Nat → Int) (w : World) (hh : HoursAt w A n h) (hk : HoursAt w B m k)
    (hv : winB p n h 60 = true) (hu : winB q m k 60 = true) :
    Calls Try.prog 12 #[.agg #[.int .i64 (p : Int), .slice A n c], .agg #[.int .i64 (q : Int), .slice B m d]] w fun e w' => e = .returned (.bool true) ∧ Below w.heap.size w w' := by
  have K := KW2.new (P := (p : Int)) (Q := (q : Int)) (c := c) (d := d) hh hk
  have hk0 := K.v.c0
  have hk1 := K.v.c1
  have hk2 := K.u.c0
  have hk3 := K.u.c1
  clear hh hk
  have hv1 := (winB_true.1 hv).1
  have hu1 := (winB_true.1 hu).1
  have hL1 : Nat.lcm p q ≤ 60 * 60 := Nat.le_trans (Nat.le_of_dvd (Nat.mul_pos (by omega) (by omega)) (Nat.lcm_dvd_mul p q)) (Nat.mul_le_mul (by omega) (by omega))
  have hL0 : 1 ≤ Nat.lcm p q := Nat.lcm_pos (by omega) (by omega)
  obtain ⟨u, hLu⟩ : p ∣ Nat.lcm p q := Nat.dvd_lcm_left p q
  obtain ⟨v, hLv⟩ : q ∣ Nat.lcm p q := Nat.dvd_lcm_right p q
  have on := own_len hv
  have om := own_len hu
  rw [hsL_cnt] at on om
  have HLC := hid (fun (hg : Nat.gcd p q = 1) => show Nat.lcm p q = p * q from (by have h5 := Nat.gcd_mul_lcm p q; rw [hg, Nat.one_mul] at h5; exact h5))
  have WN := hid fun W hA => (wNot_any p A n c h W hA).mono fun e w' hw => winv_ok (p := p) (f := fun j => !opn n h j) (by rw [show notOf p n h = wvOk p (fun j => !opn n h j) by unfold notOf; rw [winB_more hv]; rfl] at hw; exact hw) (by omega) (by omega)
  have WB := hid fun W hA hB => (wBoth_any p q A B n c m d h k W hA hB).mono fun e w' hw => winv_ok (p := Nat.lcm p q) (f := fun j => and (opn n h (j % p)) (opn m k (j % q))) (by rw [togOf_yes hv hu] at hw; exact hw) hL0 (by omega)
  have WE := hid fun W hA hB => (wEither_any p q A B n c m d h k W hA hB).mono fun e w' hw => winv_ok (p := Nat.lcm p q) (f := fun j => or (opn n h (j % p)) (opn m k (j % q))) (by rw [togOf_yes hv hu] at hw; exact hw) hL0 (by omega)
  have PV := hid fun W hA => part_any p A n c h W hA (winB_more hv) (by rw [← on]; exact cnt_le _ _)
  have PU := hid fun W hA => part_any q B m d k W hA (winB_more hu) (by rw [← om]; exact cnt_le _ _)
  have CN := hid (cnt_not p (opn n h))
  have CB := hid (cnt_both (Nat.lcm p q) (fun j => opn n h (j % p)) (fun j => opn m k (j % q)))
  have CM1 := hid (cnt_mul p u (opn n h))
  have CM2 := hid (cnt_mul q v (opn m k))
  rw [on] at CN CM1
  rw [om] at CM2
  rw [← hLu] at CM1
  rw [← hLv] at CM2
  have CP := hid (fun (hg : Nat.gcd p q = 1) => cnt_pair p q (by omega) (by omega) hg (opn n h) (opn m k))
  rw [on, om] at CP
  have HV := hid hv
  have HU := hid hu
  have HLU := hid hLu
  have HLV := hid hLv
  clear hv hu on om hLu hLv
  generalize hL : Nat.lcm p q = L at *
  clear hL
  go_enter Try.func12, Try.ntmps12
  go_wp2_with (go_at_call 47; refine (rValid_any _ _ _ _ _ _ (by first | exact K.v.hrs | exact K.u.hrs)).mono ?_; rintro e w1 ⟨rfl, hb⟩; (first | rw [HV.out] | rw [HU.out]); replace K := K.next hb; replace hk0 := K.v.c0; replace hk1 := K.v.c1; replace hk2 := K.u.c0; replace hk3 := K.u.c1; clear hb)
  have s1 := K.v.lt
  have s2 := K.u.lt
  refine (WN.out _ K.v.hrs).mono ?_
  rintro e v0 ⟨A0, c0, l0, k0, rfl, hh0, hb, hp0⟩
  replace K := K.next hb
  have HKn := hid hp0
  replace hk0 := K.v.c0
  replace hk1 := K.v.c1
  replace hk2 := K.u.c0
  replace hk3 := K.u.c1
  replace s1 := K.v.lt
  replace s2 := K.u.lt
  have K0 := K
  have Kn := KW.put (Q := (p : Int)) (d := c0) K0.v.bel hh0
  replace K := K.next (box_bel v0 (.cells #[.int .i64 (p : Int), .slice A0 l0 c0] 40))
  clear hb hh0 hp0 K0
  go_wp2_with fail
  refine (WB.out _ K.v.hrs K.u.hrs).mono ?_
  rintro e v1 ⟨A1, c1, l1, k1, rfl, hh1, hb, hp1⟩
  replace K := K.next hb
  replace Kn := Kn.next hb
  have HKb := hid hp1
  replace hk0 := K.v.c0
  replace hk1 := K.v.c1
  replace hk2 := K.u.c0
  replace hk3 := K.u.c1
  replace s1 := K.v.lt
  replace s2 := K.u.lt
  have fKn0 := Kn.c0
  have fKn1 := Kn.c1
  have fKns := Kn.lt
  have K0 := K
  have Kb := KW.put (Q := (L : Int)) (d := c1) K0.v.bel hh1
  replace K := K.next (box_bel v1 (.cells #[.int .i64 (L : Int), .slice A1 l1 c1] 40))
  replace Kn := Kn.next (box_bel v1 (.cells #[.int .i64 (L : Int), .slice A1 l1 c1] 40))
  clear hb hh1 hp1 K0
  go_wp2_with fail
  refine (WE.out _ K.v.hrs K.u.hrs).mono ?_
  rintro e v2 ⟨A2, c2, l2, k2, rfl, hh2, hb, hp2⟩
  replace K := K.next hb
  replace Kn := Kn.next hb
  replace Kb := Kb.next hb
  have HKe := hid hp2
  replace hk0 := K.v.c0
  replace hk1 := K.v.c1
  replace hk2 := K.u.c0
  replace hk3 := K.u.c1
  replace s1 := K.v.lt
  replace s2 := K.u.lt
  have fKn0 := Kn.c0
  have fKn1 := Kn.c1
  have fKns := Kn.lt
  have fKb0 := Kb.c0
  have fKb1 := Kb.c1
  have fKbs := Kb.lt
  have K0 := K
  have Ke := KW.put (Q := (L : Int)) (d := c2) K0.v.bel hh2
  replace K := K.next (box_bel v2 (.cells #[.int .i64 (L : Int), .slice A2 l2 c2] 40))
  replace Kn := Kn.next (box_bel v2 (.cells #[.int .i64 (L : Int), .slice A2 l2 c2] 40))
  replace Kb := Kb.next (box_bel v2 (.cells #[.int .i64 (L : Int), .slice A2 l2 c2] 40))
  clear hb hh2 hp2 K0
  go_wp2_with fail
  refine (PV.out _ K.v.hrs).mono ?_
  rintro e v3 ⟨Na, Da, rfl, hp3, hb⟩
  replace K := K.next hb
  replace Kn := Kn.next hb
  replace Kb := Kb.next hb
  replace Ke := Ke.next hb
  have HQa := hid hp3
  replace hk0 := K.v.c0
  replace hk1 := K.v.c1
  replace hk2 := K.u.c0
  replace hk3 := K.u.c1
  replace s1 := K.v.lt
  replace s2 := K.u.lt
  have fKn0 := Kn.c0
  have fKn1 := Kn.c1
  have fKns := Kn.lt
  have fKb0 := Kb.c0
  have fKb1 := Kb.c1
  have fKbs := Kb.lt
  have fKe0 := Ke.c0
  have fKe1 := Ke.c1
  have fKes := Ke.lt
  have K0 := K
  have Qa := KQ.put v3 Na Da
  replace K := K.next (box_bel v3 (.cells #[.int .i64 Na, .int .i64 Da] 54))
  replace Kn := Kn.next (box_bel v3 (.cells #[.int .i64 Na, .int .i64 Da] 54))
  replace Kb := Kb.next (box_bel v3 (.cells #[.int .i64 Na, .int .i64 Da] 54))
  replace Ke := Ke.next (box_bel v3 (.cells #[.int .i64 Na, .int .i64 Da] 54))
  clear hb hp3 K0
  go_wp2_with fail
  refine (PU.out _ K.u.hrs).mono ?_
  rintro e v4 ⟨Nb, Db, rfl, hp4, hb⟩
  replace K := K.next hb
  replace Kn := Kn.next hb
  replace Kb := Kb.next hb
  replace Ke := Ke.next hb
  replace Qa := Qa.next hb
  have HQb := hid hp4
  replace hk0 := K.v.c0
  replace hk1 := K.v.c1
  replace hk2 := K.u.c0
  replace hk3 := K.u.c1
  replace s1 := K.v.lt
  replace s2 := K.u.lt
  have fKn0 := Kn.c0
  have fKn1 := Kn.c1
  have fKns := Kn.lt
  have fKb0 := Kb.c0
  have fKb1 := Kb.c1
  have fKbs := Kb.lt
  have fKe0 := Ke.c0
  have fKe1 := Ke.c1
  have fKes := Ke.lt
  have fQa0 := Qa.c0
  have fQa1 := Qa.c1
  have fQas := Qa.lt
  have K0 := K
  have Qb := KQ.put v4 Nb Db
  replace K := K.next (box_bel v4 (.cells #[.int .i64 Nb, .int .i64 Db] 54))
  replace Kn := Kn.next (box_bel v4 (.cells #[.int .i64 Nb, .int .i64 Db] 54))
  replace Kb := Kb.next (box_bel v4 (.cells #[.int .i64 Nb, .int .i64 Db] 54))
  replace Ke := Ke.next (box_bel v4 (.cells #[.int .i64 Nb, .int .i64 Db] 54))
  replace Qa := Qa.next (box_bel v4 (.cells #[.int .i64 Nb, .int .i64 Db] 54))
  clear hb hp4 K0
  go_wp2_with fail
  refine (part_any p _ _ _ _ _ Kn.hrs HKn.out.win HKn.out.le).mono ?_
  rintro e v5 ⟨Nc, Dc, rfl, hp5, hb⟩
  replace K := K.next hb
  replace Kn := Kn.next hb
  replace Kb := Kb.next hb
  replace Ke := Ke.next hb
  replace Qa := Qa.next hb
  replace Qb := Qb.next hb
  have HQc := hid hp5
  replace hk0 := K.v.c0
  replace hk1 := K.v.c1
  replace hk2 := K.u.c0
  replace hk3 := K.u.c1
  replace s1 := K.v.lt
  replace s2 := K.u.lt
  have fKn0 := Kn.c0
  have fKn1 := Kn.c1
  have fKns := Kn.lt
  have fKb0 := Kb.c0
  have fKb1 := Kb.c1
  have fKbs := Kb.lt
  have fKe0 := Ke.c0
  have fKe1 := Ke.c1
  have fKes := Ke.lt
  have fQa0 := Qa.c0
  have fQa1 := Qa.c1
  have fQas := Qa.lt
  have fQb0 := Qb.c0
  have fQb1 := Qb.c1
  have fQbs := Qb.lt
  have K0 := K
  have Qc := KQ.put v5 Nc Dc
  replace K := K.next (box_bel v5 (.cells #[.int .i64 Nc, .int .i64 Dc] 54))
  replace Kn := Kn.next (box_bel v5 (.cells #[.int .i64 Nc, .int .i64 Dc] 54))
  replace Kb := Kb.next (box_bel v5 (.cells #[.int .i64 Nc, .int .i64 Dc] 54))
  replace Ke := Ke.next (box_bel v5 (.cells #[.int .i64 Nc, .int .i64 Dc] 54))
  replace Qa := Qa.next (box_bel v5 (.cells #[.int .i64 Nc, .int .i64 Dc] 54))
  replace Qb := Qb.next (box_bel v5 (.cells #[.int .i64 Nc, .int .i64 Dc] 54))
  clear hb hp5 K0
  go_wp2_with fail
  refine (part_any L _ _ _ _ _ Kb.hrs HKb.out.win HKb.out.le).mono ?_
  rintro e v6 ⟨Nd, Dd, rfl, hp6, hb⟩
  replace K := K.next hb
  replace Kn := Kn.next hb
  replace Kb := Kb.next hb
  replace Ke := Ke.next hb
  replace Qa := Qa.next hb
  replace Qb := Qb.next hb
  replace Qc := Qc.next hb
  have HQd := hid hp6
  replace hk0 := K.v.c0
  replace hk1 := K.v.c1
  replace hk2 := K.u.c0
  replace hk3 := K.u.c1
  replace s1 := K.v.lt
  replace s2 := K.u.lt
  have fKn0 := Kn.c0
  have fKn1 := Kn.c1
  have fKns := Kn.lt
  have fKb0 := Kb.c0
  have fKb1 := Kb.c1
  have fKbs := Kb.lt
  have fKe0 := Ke.c0
  have fKe1 := Ke.c1
  have fKes := Ke.lt
  have fQa0 := Qa.c0
  have fQa1 := Qa.c1
  have fQas := Qa.lt
  have fQb0 := Qb.c0
  have fQb1 := Qb.c1
  have fQbs := Qb.lt
  have fQc0 := Qc.c0
  have fQc1 := Qc.c1
  have fQcs := Qc.lt
  have K0 := K
  have Qd := KQ.put v6 Nd Dd
  replace K := K.next (box_bel v6 (.cells #[.int .i64 Nd, .int .i64 Dd] 54))
  replace Kn := Kn.next (box_bel v6 (.cells #[.int .i64 Nd, .int .i64 Dd] 54))
  replace Kb := Kb.next (box_bel v6 (.cells #[.int .i64 Nd, .int .i64 Dd] 54))
  replace Ke := Ke.next (box_bel v6 (.cells #[.int .i64 Nd, .int .i64 Dd] 54))
  replace Qa := Qa.next (box_bel v6 (.cells #[.int .i64 Nd, .int .i64 Dd] 54))
  replace Qb := Qb.next (box_bel v6 (.cells #[.int .i64 Nd, .int .i64 Dd] 54))
  replace Qc := Qc.next (box_bel v6 (.cells #[.int .i64 Nd, .int .i64 Dd] 54))
  clear hb hp6 K0
  go_wp2_with fail
  refine (part_any L _ _ _ _ _ Ke.hrs HKe.out.win HKe.out.le).mono ?_
  rintro e v7 ⟨Nx, Dx, rfl, hp7, hb⟩
  replace K := K.next hb
  replace Kn := Kn.next hb
  replace Kb := Kb.next hb
  replace Ke := Ke.next hb
  replace Qa := Qa.next hb
  replace Qb := Qb.next hb
  replace Qc := Qc.next hb
  replace Qd := Qd.next hb
  have HQx := hid hp7
  replace hk0 := K.v.c0
  replace hk1 := K.v.c1
  replace hk2 := K.u.c0
  replace hk3 := K.u.c1
  replace s1 := K.v.lt
  replace s2 := K.u.lt
  have fKn0 := Kn.c0
  have fKn1 := Kn.c1
  have fKns := Kn.lt
  have fKb0 := Kb.c0
  have fKb1 := Kb.c1
  have fKbs := Kb.lt
  have fKe0 := Ke.c0
  have fKe1 := Ke.c1
  have fKes := Ke.lt
  have fQa0 := Qa.c0
  have fQa1 := Qa.c1
  have fQas := Qa.lt
  have fQb0 := Qb.c0
  have fQb1 := Qb.c1
  have fQbs := Qb.lt
  have fQc0 := Qc.c0
  have fQc1 := Qc.c1
  have fQcs := Qc.lt
  have fQd0 := Qd.c0
  have fQd1 := Qd.c1
  have fQds := Qd.lt
  have K0 := K
  have Qx := KQ.put v7 Nx Dx
  replace K := K.next (box_bel v7 (.cells #[.int .i64 Nx, .int .i64 Dx] 54))
  replace Kn := Kn.next (box_bel v7 (.cells #[.int .i64 Nx, .int .i64 Dx] 54))
  replace Kb := Kb.next (box_bel v7 (.cells #[.int .i64 Nx, .int .i64 Dx] 54))
  replace Ke := Ke.next (box_bel v7 (.cells #[.int .i64 Nx, .int .i64 Dx] 54))
  replace Qa := Qa.next (box_bel v7 (.cells #[.int .i64 Nx, .int .i64 Dx] 54))
  replace Qb := Qb.next (box_bel v7 (.cells #[.int .i64 Nx, .int .i64 Dx] 54))
  replace Qc := Qc.next (box_bel v7 (.cells #[.int .i64 Nx, .int .i64 Dx] 54))
  replace Qd := Qd.next (box_bel v7 (.cells #[.int .i64 Nx, .int .i64 Dx] 54))
  clear hb hp7 K0
  have E1 := pr_one HQa.out HQc.out (by omega) (by rw [HKn.out.len, hsL_cnt]; exact CN.out)
  have E2 := pr_sum HQa.out HQb.out HQd.out HQx.out (by omega) HLU.out HLV.out (by rw [HKb.out.len, HKe.out.len, hsL_cnt, hsL_cnt, CB.out, CM1.out, CM2.out])
  have HE3 := hid (fun (hg : Nat.gcd p q = 1) => pr_pair HQa.out HQb.out HQd.out (by omega) (HLC.out hg) (by rw [HKb.out.len, hsL_cnt, HLC.out hg, CP.out hg]))
  have b1 : ((Na * Dc + Nc * Da) != (Da * Dc)) = false := by rw [E1]; simp
  have b2 : (((Nd * Dx + Nx * Dd) * Da * Db) != ((Na * Db + Nb * Da) * Dd * Dx)) = false := by rw [E2]; simp
  have a0 := HQa.out.n0
  have a1 := Int.le_trans HQa.out.nd HQa.out.d2
  have a2 := HQa.out.d1
  have a3 := HQa.out.d2
  have b0 := HQb.out.n0
  have b1' := Int.le_trans HQb.out.nd HQb.out.d2
  have b2' := HQb.out.d1
  have b3 := HQb.out.d2
  have c0 := HQc.out.n0
  have c1 := Int.le_trans HQc.out.nd HQc.out.d2
  have c2 := HQc.out.d1
  have c3 := HQc.out.d2
  have d0 := HQd.out.n0
  have d1 := Int.le_trans HQd.out.nd HQd.out.d2
  have d2 := HQd.out.d1
  have d3 := HQd.out.d2
  have x0 := HQx.out.n0
  have x1 := Int.le_trans HQx.out.nd HQx.out.d2
  have x2 := HQx.out.d1
  have x3 := HQx.out.d2
  have m1 := mulb a0 a1 (show 0 ≤ Dc by omega) c3
  have m2 := mulb c0 c1 (show 0 ≤ Da by omega) a3
  have m3 := mulb (show 0 ≤ Da by omega) a3 (show 0 ≤ Dc by omega) c3
  have m4 := mulb d0 d1 (show 0 ≤ Dx by omega) x3
  have m5 := mulb x0 x1 (show 0 ≤ Dd by omega) d3
  have m6 := mulb (show 0 ≤ Nd * Dx + Nx * Dd by omega) (show Nd * Dx + Nx * Dd ≤ 25920000 by omega) (show 0 ≤ Da by omega) a3
  have m7 := mulb m6.1 m6.2 (show 0 ≤ Db by omega) b3
  have m8 := mulb a0 a1 (show 0 ≤ Db by omega) b3
  have m9 := mulb b0 b1' (show 0 ≤ Da by omega) a3
  have m10 := mulb (show 0 ≤ Na * Db + Nb * Da by omega) (show Na * Db + Nb * Da ≤ 25920000 by omega) (show 0 ≤ Dd by omega) d3
  have m11 := mulb m10.1 m10.2 (show 0 ≤ Dx by omega) x3
  have m12 := mulb d0 d1 (show 0 ≤ Da by omega) a3
  have m13 := mulb m12.1 m12.2 (show 0 ≤ Db by omega) b3
  have m14 := mulb a0 a1 b0 b1'
  have m15 := mulb m14.1 m14.2 (show 0 ≤ Dd by omega) d3
  clear E1 E2 a0 a1 a2 a3 b0 b1' b2' b3 c0 c1 c2 c3 d0 d1 d2 d3 x0 x1 x2 x3
  have hbel := hid K.v.bel
  have hsz := K.v.lt
  clear K Qa Qb Qc Qd Qx Kn Kb Ke fKn0 fKn1 fKns fKb0 fKb1 fKbs fKe0 fKe1 fKes
  go_wp2_with fail
  clear b1 b2 m1 m2 m3 m4 m5 m6 m7 m8 m9 m10 m11
  go_loopw [22] (fun i wr => ∃ e : Nat, 2 ≤ e ∧ e ≤ 61 ∧ i = .int .i64 e ∧ Hid (∀ j, 2 ≤ j → j < e → ¬ (p % j = 0 ∧ q % j = 0)) ∧ wr = v7.alloc (.cells #[.int .i64 Nx, .int .i64 Dx] 54)) (fun i _ => 61 - (intOf i).toNat)
  case atStart => exact ⟨2, by omega, by omega, rfl, hid (fun j h1 h2 => by omega), rfl⟩
  case round =>
    obtain ⟨e, he1, he2, rfl, HN, rfl⟩ := hrel
    by_cases hlt : e ≤ 60
    · have hz : ¬ e = 0 := by omega
      have q1 : (p : Int) % (e : Int) = ((p % e : Nat) : Int) := by simp
      have q2 : (q : Int) % (e : Int) = ((q % e : Nat) : Int) := by simp
      by_cases h1 : p % e = 0
      · have t1 : ((p : Int) % (e : Int) == 0) = true := by rw [q1, h1]; rfl
        by_cases h2 : q % e = 0
        · have t2 : ((q : Int) % (e : Int) == 0) = true := by rw [q2, h2]; rfl
          clear h1 h2 q1 q2
          go_wp2_with (go_at_call 19; refine (awake_any _).mono ?_; rintro e w2 ⟨rfl, hb⟩)
          go_ret
          exact ⟨rfl, btr hbel.out hb hbel.out.size⟩
        · have t2 : ((q : Int) % (e : Int) == 0) = false := by rw [q2]; simp; omega
          have H2 := hid h2
          clear h1 h2 q1 q2
          go_wp2
          go_roundw
          case rel => exact ⟨e + 1, by omega, by omega, by go_num, hid (fun j g1 g2 => by (by_cases g : j = e; (subst g; exact fun z => H2.out z.2); exact HN.out j g1 (by omega))), by trivial⟩
          case measure => simp [intOf]; omega
      · have t1 : ((p : Int) % (e : Int) == 0) = false := by rw [q1]; simp; omega
        have H1 := hid h1
        clear h1 q1 q2
        go_wp2
        go_roundw
        case rel => exact ⟨e + 1, by omega, by omega, by go_num, hid (fun j g1 g2 => by (by_cases g : j = e; (subst g; exact fun z => H1.out z.1); exact HN.out j g1 (by omega))), by trivial⟩
        case measure => simp [intOf]; omega
    · obtain rfl : e = 61 := by omega
      have hE3 := HE3.out (no_common (by omega) (by omega) HN.out)
      have b3 : ((Nd * Da * Db) == (Na * Nb * Dd)) = true := by rw [hE3]; simp
      clear hE3
      go_wp2_with (go_at_call 19; refine (awake_any _).mono ?_; rintro e w2 ⟨rfl, hb⟩)
      go_ret
      exact ⟨rfl, btr hbel.out hb hbel.out.size⟩
theorem windowParts_walk (P : Int) (A : Option Addr) (n c : Nat) (h : Nat → Int) (Q : Int) (B : Option Addr) (m d : Nat) (k : Nat → Int) (w : World) (hh : HoursAt w A n h) (hk : HoursAt w B m k) :
    Calls Try.prog 12 #[.agg #[.int .i64 P, .slice A n c], .agg #[.int .i64 Q, .slice B m d]] w fun e w' => e = .returned (.bool true) ∧ Below w.heap.size w w' := by
  by_cases hs : winB P n h 60 = false ∨ winB Q m k 60 = false
  · exact parts_skip P A n c h Q B m d k w hh hk hs
  · simp only [not_or, Bool.not_eq_false] at hs
    obtain ⟨h3, h4⟩ := hs
    have hv := (winB_true.1 h3).1
    have hu := (winB_true.1 h4).1
    obtain ⟨p, rfl⟩ := Int.eq_ofNat_of_zero_le (show 0 ≤ P by omega)
    obtain ⟨q, rfl⟩ := Int.eq_ofNat_of_zero_le (show 0 ≤ Q by omega)
    exact parts_good p A n c h q B m d k w hh hk h3 h4
end Go.Proofs.Ytfabpkcgdblnbaa
