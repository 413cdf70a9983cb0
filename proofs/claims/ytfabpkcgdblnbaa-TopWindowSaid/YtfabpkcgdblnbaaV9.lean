/-
  The law WindowPlains: it returns true, whatever the input. Conditions: the hours lie in memory.
-/
import Derived.Test.YtfabpkcgdblnbaaMathP
import Derived.Test.YtfabpkcgdblnbaaW7
namespace Go.Proofs.Ytfabpkcgdblnbaa
set_option linter.unusedVariables false
set_option linter.unusedSimpArgs false
open Go.RowKit

theorem KW.put {w0 w : World} {Q : Int} {B : Option Addr} {m d : Nat} {k : Nat → Int} (hbel : Below w0.heap.size w0 w) (hk : HoursAt w B m k) :
    KW w0 (w.alloc (.cells #[.int .i64 Q, .slice B m d] 40)) w.heap.size Q B m d k :=
  ⟨hbel.alloc hbel.size _, hk.alloc _, by simp, blk_c0 (Blk.new _ _ _), blk_c1 (Blk.new _ _ _)⟩

/-- what is kept of a, the plain window -/
structure PlW (q : Nat) (f : Nat → Bool) (l : Nat) (k : Nat → Int) : Prop where
  win : winB q l k 3600 = true
  at_ : ∀ j, j < q → opn l k j = f j
  len : l = (hsL f q).length
  hrs : k = hsF f q
theorem PlW.mk' {q : Nat} {f : Nat → Bool} (h1 : 1 ≤ q) (h2 : (q : Int) ≤ 3600) : PlW q f (hsL f q).length (hsF f q) := ⟨winB_hs h1 h2, fun j hj => opn_hs hj, rfl, rfl⟩

def PlainR (w : World) (q : Nat) (f : Nat → Bool) (e : Ending) (w' : World) : Prop :=
  ∃ A c l k, e = .returned (.tuple #[.agg #[.int .i64 (q : Int), .slice A l c], .int .i64 0]) ∧ HoursAt w' A l k ∧ Below w.heap.size w w' ∧ PlW q f l k
theorem wPlain_yes (p : Nat) (A : Option Addr) (n c : Nat) (h : Nat → Int) (w : World) (hh : HoursAt w A n h) (hw : winB p n h 3600 = true) :
    Calls Try.prog 58 #[.agg #[.int .i64 (p : Int), .slice A n c]] w (PlainR w (plainP p (opn n h)) (opn n h)) := by
  refine (wPlain_any p A n c h w hh).mono ?_
  rintro e w' ⟨A', c', rfl, hh', hb⟩
  have hv := (winB_true.1 hw).1
  have hpl := plainP_le p (opn n h)
  have hpp := plainP_pos (opn n h) (show 0 < p by omega)
  have e1 : plainOf p n h = wvOk (plainP p (opn n h)) (opn n h) := by unfold plainOf; rw [hw]; rfl
  rw [e1] at hh' ⊢
  exact ⟨A', c', _, _, rfl, hh'.at_, hb, PlW.mk' (by omega) (by omega)⟩
theorem wPlain_again (p q : Nat) (f : Nat → Bool) (A : Option Addr) (l c : Nat) (k : Nat → Int) (w : World) (hh : HoursAt w A l k) (hp : PlW q f l k) (hq : plainP q f = q) :
    Calls Try.prog 58 #[.agg #[.int .i64 (q : Int), .slice A l c]] w (PlainR w q f) := by
  have h := wPlain_yes q A l c k w hh hp.win
  refine h.mono ?_
  rintro e w' ⟨A', c', l', k', he, hh', hb, hp'⟩
  have hcg := plainP_congr (p := q) (f := opn l k) (g := f) hp.at_
  rw [hcg, hq] at hp' he
  exact ⟨A', c', l', k', he, hh', hb, hp'.win, fun j hj => (hp'.at_ j hj).trans (hp.at_ j hj), by rw [hp'.len, hsL_congr hp.at_], by rw [hp'.hrs, hsF_congr hp.at_]⟩
/-- Same, of a window and its plain one -/
theorem same_like {p : Nat} {n : Nat} {h : Nat → Int} {l : Nat} {k : Nat → Int} (hw : winB p n h 3600 = true) (hp : PlW (plainP p (opn n h)) (opn n h) l k) :
    sameOf p n h (plainP p (opn n h) : Nat) l k = (true, 0) := by
  have hv := (winB_true.1 hw).1
  unfold sameOf
  rw [hw, hp.win]
  simp only [Int.toNat_natCast, Bool.and_true, if_true, Prod.mk.injEq, and_true]
  rw [plainP_congr hp.at_, plainP_idem _ (by omega)]
  exact eqB_true.2 ⟨rfl, fun j hj => (hp.at_ j hj).symm⟩
theorem same_is {p q : Nat} {n m : Nat} {h k : Nat → Int} (hw : winB p n h 3600 = true) (hu : winB q m k 3600 = true) :
    sameOf p n h q m k = (eqB (plainP p (opn n h)) (opn n h) (plainP q (opn m k)) (opn m k), 0) := by
  unfold sameOf
  rw [hw, hu]
  rfl

set_option maxRecDepth 100000 in
set_option maxHeartbeats 1000000 in
theorem plains_skip (P : Int) (A : Option Addr) (n c : Nat) (h : Nat → Int) (Q : Int) (B : Option Addr) (m d : Nat) (k : Nat → Int) (x : Int) (w : World) (hh : HoursAt w A n h) (hk : HoursAt w B m k)
    (hs : (((4000 : Int) < n ∨ (4000 : Int) < m) ∨ winB P n h 3600 = false) ∨ winB Q m k 3600 = false) :
    Calls Try.prog 14 #[.agg #[.int .i64 P, .slice A n c], .agg #[.int .i64 Q, .slice B m d], .int .u32 x] w fun e w' => e = .returned (.bool true) ∧ Below w.heap.size w w' := by
  have K := KW2.new (P := P) (Q := Q) (c := c) (d := d) hh hk
  have hk0 := K.v.c0
  have hk1 := K.v.c1
  have hk2 := K.u.c0
  have hk3 := K.u.c1
  clear hh hk
  have key : (4000 : Int) < n ∨ (¬ (4000 : Int) < n ∧ (4000 : Int) < m) ∨ (¬ (4000 : Int) < n ∧ ¬ (4000 : Int) < m ∧ winB P n h 3600 = false) ∨ (¬ (4000 : Int) < n ∧ ¬ (4000 : Int) < m ∧ winB P n h 3600 = true ∧ winB Q m k 3600 = false) := by
    cases h1 : winB P n h 3600 <;> cases h2 : winB Q m k 3600 <;> simp [h1, h2] at hs ⊢ <;> omega
  clear hs
  rcases key with h1 | ⟨h1, h2⟩ | ⟨h1, h2, h3⟩ | ⟨h1, h2, h3, h4⟩
  all_goals
    go_enter Try.func14, Try.ntmps14
    go_wp2_with (first
      | (go_at_call 30; refine (lWide_any _ _ _ _ _).mono ?_; rintro e w1 ⟨rfl, hb⟩; replace K := K.next hb; replace hk0 := K.v.c0; replace hk1 := K.v.c1; replace hk2 := K.u.c0; replace hk3 := K.u.c1; clear hb)
      | (go_at_call 35; refine (rWide_any _ _ _ _ _ _ (by first | exact K.v.hrs | exact K.u.hrs)).mono ?_; rintro e w1 ⟨rfl, hb⟩; replace K := K.next hb; replace hk0 := K.v.c0; replace hk1 := K.v.c1; replace hk2 := K.u.c0; replace hk3 := K.u.c1; clear hb)
      | (go_at_call 19; refine (awake_any _).mono ?_; rintro e w2 ⟨rfl, hb⟩; replace K := K.next hb; clear hb hk0 hk1 hk2 hk3))
    go_ret
    exact ⟨rfl, K.v.bel⟩

set_option maxRecDepth 100000 in
set_option maxHeartbeats 2000000 in
theorem plains_good (p : Nat) (A : Option Addr) (n c : Nat) (h : Nat → Int) (q : Nat) (B : Option Addr) (m d : Nat) (k : Nat → Int) (x : Nat) (w : World) (hh : HoursAt w A n h) (hk : HoursAt w B m k)
    (hl1 : ¬ (4000 : Int) < n) (hl2 : ¬ (4000 : Int) < m) (hv : winB p n h 3600 = true) (hu : winB q m k 3600 = true) (hx : (x : Int) ≤ 4294967295) :
    Calls Try.prog 14 #[.agg #[.int .i64 (p : Int), .slice A n c], .agg #[.int .i64 (q : Int), .slice B m d], .int .u32 (x : Int)] w fun e w' => e = .returned (.bool true) ∧ Below w.heap.size w w' := by
  have K := KW2.new (P := (p : Int)) (Q := (q : Int)) (c := c) (d := d) hh hk
  have hk0 := K.v.c0
  have hk1 := K.v.c1
  have hk2 := K.u.c0
  have hk3 := K.u.c1
  clear hh hk
  have hpv := (winB_true.1 hv).1
  have hpu := (winB_true.1 hu).1
  have hE : (x : Int) % 1000000000 = ((x % 1000000000 : Nat) : Int) := rfl
  have hlt := Nat.mod_lt x (show 0 < 1000000000 by omega)
  generalize x % 1000000000 = y at *
  have hf := plainP_fact (opn n h) (show 0 < p by omega)
  have hid1 := plainP_idem (opn n h) (show 0 < p by omega)
  have hat := plain_at (f := opn n h) (show 0 < p by omega) y
  have hpos := plainP_pos (opn n h) (show 0 < p by omega)
  have hple := plainP_le p (opn n h)
  have hsm := fun (e : eqB (plainP p (opn n h)) (opn n h) (plainP q (opn m k)) (opn m k) = true) => same_at (show 0 < p by omega) (show 0 < q by omega) e y
  have hlk := fun l k' => same_like (l := l) (k := k') hv
  have his := same_is hv hu
  have hrem : (p : Int) % (plainP p (opn n h) : Nat) = 0 := by rw [← Int.natCast_emod, hf.1.1]; rfl
  have hrem2 : (p : Int).tmod (plainP p (opn n h) : Nat) = 0 := by rw [Int.tmod_eq_emod_of_nonneg (by omega)]; exact hrem
  have hne : (((plainP p (opn n h) : Nat) : Int) == 0) = false := beq_eq_false_iff_ne.2 (by omega)
  have hne2 : ¬ plainP p (opn n h) = 0 := by omega
  have HV := hid hv
  have HU := hid hu
  have HID := hid hid1
  have HAT := hid hat
  have HSM := hid hsm
  have HLK := hid hlk
  have HIS := hid his
  have PV := hid fun W hW => wPlain_yes p A n c h W hW hv
  have PU := hid fun W hW => wPlain_yes q B m d k W hW hu
  clear hv hu hid1 hat hsm hlk his hf
  generalize hr : plainP p (opn n h) = r at *
  generalize ht : plainP q (opn m k) = t at *
  have HR := hid hr
  have HT := hid ht
  clear hr ht
  go_enter Try.func14, Try.ntmps14
  go_wp2_with (first
    | (go_at_call 30; refine (lWide_any _ _ _ _ _).mono ?_; rintro e w1 ⟨rfl, hb⟩; replace K := K.next hb; replace hk0 := K.v.c0; replace hk1 := K.v.c1; replace hk2 := K.u.c0; replace hk3 := K.u.c1; clear hb)
    | (go_at_call 35; refine (rWide_any _ _ _ _ _ _ (by first | exact K.v.hrs | exact K.u.hrs)).mono ?_; rintro e w1 ⟨rfl, hb⟩; (first | rw [HV.out] | rw [HU.out]); replace K := K.next hb; replace hk0 := K.v.c0; replace hk1 := K.v.c1; replace hk2 := K.u.c0; replace hk3 := K.u.c1; clear hb))
  have s1 := K.v.lt
  have s2 := K.u.lt
  refine (PV.out _ K.v.hrs).mono ?_
  rintro e w2 ⟨A2, c2, l2, k2, rfl, hh2, hb2, hp2⟩
  replace K := K.next hb2
  replace hk0 := K.v.c0
  replace hk1 := K.v.c1
  replace hk2 := K.u.c0
  replace hk3 := K.u.c1
  replace s1 := K.v.lt
  replace s2 := K.u.lt
  have Ka' := hid (KW.put (Q := (r : Int)) (d := c2) K.v.bel hh2)
  have K' := hid (K.next (box_bel w2 (.cells #[.int .i64 (r : Int), .slice A2 l2 c2] 40)))
  have HP2 := hid hp2
  clear hb2 hh2 hp2
  go_wp2_with fail
  refine (PU.out _ K'.out.u.hrs).mono ?_
  rintro e w3 ⟨A3, c3, l3, k3, rfl, hh3, hb3, hp3⟩
  replace K := K'.out.next hb3
  have Ka := Ka'.out.next hb3
  replace hk0 := K.v.c0
  replace hk1 := K.v.c1
  replace hk2 := K.u.c0
  replace hk3 := K.u.c1
  replace s1 := K.v.lt
  replace s2 := K.u.lt
  have ha0 := Ka.c0
  have ha1 := Ka.c1
  have s3 := Ka.lt
  clear K' Ka'
  have Kb' := hid (KW.put (Q := (t : Int)) (d := c3) K.v.bel hh3)
  have K' := hid (K.next (box_bel w3 (.cells #[.int .i64 (t : Int), .slice A3 l3 c3] 40)))
  have Ka' := hid (Ka.next (box_bel w3 (.cells #[.int .i64 (t : Int), .slice A3 l3 c3] 40)))
  have HP3 := hid hp3
  clear hb3 hh3 hp3
  go_wp2_with fail
  refine (wSame_any _ _ _ _ _ _ _ _ _ _ _ K'.out.v.hrs Ka'.out.hrs).mono ?_
  rintro e w4 ⟨rfl, hb4⟩
  rw [HLK.out _ _ HP2.out]
  replace K := K'.out.next hb4
  replace Ka := Ka'.out.next hb4
  have Kb := Kb'.out.next hb4
  replace hk0 := K.v.c0
  replace hk1 := K.v.c1
  replace hk2 := K.u.c0
  replace hk3 := K.u.c1
  replace s1 := K.v.lt
  replace s2 := K.u.lt
  replace ha0 := Ka.c0
  replace ha1 := Ka.c1
  replace s3 := Ka.lt
  have hb0 := Kb.c0
  have hb1 := Kb.c1
  clear K' Ka' Kb' hb4
  go_wp2_with fail
  refine (wSame_any _ _ _ _ _ _ _ _ _ _ _ K.v.hrs K.u.hrs).mono ?_
  rintro e w5 ⟨rfl, hb5⟩
  rw [HIS.out]
  replace K := K.next hb5
  replace Ka := Ka.next hb5
  replace Kb := Kb.next hb5
  replace hk0 := K.v.c0
  replace hk1 := K.v.c1
  replace hk2 := K.u.c0
  replace hk3 := K.u.c1
  replace s1 := K.v.lt
  replace s2 := K.u.lt
  replace ha0 := Ka.c0
  replace ha1 := Ka.c1
  replace s3 := Ka.lt
  replace hb0 := Kb.c0
  replace hb1 := Kb.c1
  clear hb5
  have HEQ : Hid (eqWin r l2 k2 t l3 k3 = eqB r (opn n h) t (opn m k)) := hid (by rw [HP2.out.len, HP2.out.hrs, HP3.out.len, HP3.out.hrs, eqWin_tab])
  generalize eqB r (opn n h) t (opn m k) = E at *
  go_wp2_with (first
    | (go_at_call 35; refine (rWide_any _ _ _ _ _ _ Ka.hrs).mono ?_; rintro e w1 ⟨rfl, hb⟩; rw [HP2.out.win]; replace K := K.next hb; replace Ka := Ka.next hb; replace Kb := Kb.next hb; replace hk0 := K.v.c0; replace hk1 := K.v.c1; replace hk2 := K.u.c0; replace hk3 := K.u.c1; replace ha0 := Ka.c0; replace ha1 := Ka.c1; replace hb0 := Kb.c0; replace hb1 := Kb.c1; clear hb)
    | (go_at_call 42; refine (equal_any _ _ _ _ _ _ _ _ _ _ _ Ka.hrs Kb.hrs).mono ?_; rintro e w1 ⟨rfl, hb⟩; rw [HEQ.out]; replace K := K.next hb; replace Ka := Ka.next hb; replace Kb := Kb.next hb; replace hk0 := K.v.c0; replace hk1 := K.v.c1; replace hk2 := K.u.c0; replace hk3 := K.u.c1; replace ha0 := Ka.c0; replace ha1 := Ka.c1; replace hb0 := Kb.c0; replace hb1 := Kb.c1; clear hb))
  replace s1 := K.v.lt
  replace s2 := K.u.lt
  replace s3 := Ka.lt
  refine (wPlain_again p r (opn n h) _ _ _ _ _ Ka.hrs HP2.out HID.out).mono ?_
  rintro e w6 ⟨A6, c6, l6, k6, rfl, hh6, hb6, hp6⟩
  replace K := K.next hb6
  replace Ka := Ka.next hb6
  replace Kb := Kb.next hb6
  replace hk0 := K.v.c0
  replace hk1 := K.v.c1
  replace hk2 := K.u.c0
  replace hk3 := K.u.c1
  replace s1 := K.v.lt
  replace s2 := K.u.lt
  replace ha0 := Ka.c0
  replace ha1 := Ka.c1
  replace s3 := Ka.lt
  have Kd' := hid (KW.put (Q := (r : Int)) (d := c6) K.v.bel hh6)
  have K' := hid (K.next (box_bel w6 (.cells #[.int .i64 (r : Int), .slice A6 l6 c6] 40)))
  have Ka' := hid (Ka.next (box_bel w6 (.cells #[.int .i64 (r : Int), .slice A6 l6 c6] 40)))
  have HEQ2 : Hid (eqWin r l6 k6 r l2 k2 = true) := hid (by rw [HP2.out.len, HP2.out.hrs, hp6.len, hp6.hrs, eqWin_refl])
  clear hb6 hh6 hp6 hb0 hb1
  go_wp2_with fail
  refine (opens_at _ _ _ _ _ _ _ _ K'.out.v.hrs HV.out (by omega) rfl).mono ?_
  rintro e w7 ⟨rfl, hb7⟩
  replace K := K'.out.next hb7
  replace Ka := Ka'.out.next hb7
  have Kd := Kd'.out.next hb7
  replace hk0 := K.v.c0
  replace hk1 := K.v.c1
  replace hk2 := K.u.c0
  replace hk3 := K.u.c1
  replace ha0 := Ka.c0
  replace ha1 := Ka.c1
  have hd0 := Kd.c0
  have hd1 := Kd.c1
  clear K' Ka' Kd' hb7 s1 s2 s3
  go_wp2_with fail
  refine (opens_at _ _ _ _ _ _ _ _ K.u.hrs HU.out (by omega) rfl).mono ?_
  rintro e w8 ⟨rfl, hb8⟩
  replace K := K.next hb8
  replace Ka := Ka.next hb8
  replace Kd := Kd.next hb8
  replace hk0 := K.v.c0
  replace hk1 := K.v.c1
  replace hk2 := K.u.c0
  replace hk3 := K.u.c1
  replace ha0 := Ka.c0
  replace ha1 := Ka.c1
  replace hd0 := Kd.c0
  replace hd1 := Kd.c1
  clear hb8
  go_wp2_with fail
  have hyr := HP2.out.at_ (y % r) (Nat.mod_lt _ hpos)
  rw [← HAT.out] at hyr
  refine (opens_at _ _ _ _ _ _ _ _ Ka.hrs HP2.out.win (by omega) hyr).mono ?_
  rintro e w9 ⟨rfl, hb9⟩
  replace K := K.next hb9
  replace Ka := Ka.next hb9
  replace Kd := Kd.next hb9
  replace hk0 := K.v.c0
  replace hk1 := K.v.c1
  replace hk2 := K.u.c0
  replace hk3 := K.u.c1
  replace ha0 := Ka.c0
  replace ha1 := Ka.c1
  replace hd0 := Kd.c0
  replace hd1 := Kd.c1
  clear hb9 hyr
  have hsm := HSM.out
  clear HAT HSM
  generalize opn n h (y % p) = X at *
  generalize opn m k (y % q) = Y at *
  cases E
  · clear hsm
    go_wp2_with (first
      | (go_at_call 42; refine (equal_any _ _ _ _ _ _ _ _ _ _ _ Kd.hrs Ka.hrs).mono ?_; rintro e w1 ⟨rfl, hb⟩; rw [HEQ2.out]; replace K := K.next hb; clear hb hk0 hk1 hk2 hk3 ha0 ha1 hd0 hd1)
      | (go_at_call 19; refine (awake_any _).mono ?_; rintro e w1 ⟨rfl, hb⟩; replace K := K.next hb; clear hb))
    go_ret
    exact ⟨rfl, K.v.bel⟩
  · obtain rfl := hsm rfl
    go_wp2_with (first
      | (go_at_call 42; refine (equal_any _ _ _ _ _ _ _ _ _ _ _ Kd.hrs Ka.hrs).mono ?_; rintro e w1 ⟨rfl, hb⟩; rw [HEQ2.out]; replace K := K.next hb; clear hb hk0 hk1 hk2 hk3 ha0 ha1 hd0 hd1)
      | (go_at_call 19; refine (awake_any _).mono ?_; rintro e w1 ⟨rfl, hb⟩; replace K := K.next hb; clear hb))
    go_ret
    exact ⟨rfl, K.v.bel⟩
theorem windowPlains_walk (P : Int) (A : Option Addr) (n c : Nat) (h : Nat → Int) (Q : Int) (B : Option Addr) (m d : Nat) (k : Nat → Int) (x : Int) (w : World) (hh : HoursAt w A n h) (hk : HoursAt w B m k) (hx : (Lit.int .u32 x).wf = true) :
    Calls Try.prog 14 #[.agg #[.int .i64 P, .slice A n c], .agg #[.int .i64 Q, .slice B m d], .int .u32 x] w fun e w' => e = .returned (.bool true) ∧ Below w.heap.size w w' := by
  by_cases hs : (((4000 : Int) < n ∨ (4000 : Int) < m) ∨ winB P n h 3600 = false) ∨ winB Q m k 3600 = false
  · exact plains_skip P A n c h Q B m d k x w hh hk hs
  · simp only [not_or, Bool.not_eq_false] at hs
    obtain ⟨⟨⟨h1, h2⟩, h3⟩, h4⟩ := hs
    have hv := (winB_true.1 h3).1
    have hu := (winB_true.1 h4).1
    obtain ⟨p, rfl⟩ := Int.eq_ofNat_of_zero_le (show 0 ≤ P by omega)
    obtain ⟨q, rfl⟩ := Int.eq_ofNat_of_zero_le (show 0 ≤ Q by omega)
    obtain ⟨y, rfl, hy⟩ := u32_nat hx
    exact plains_good p A n c h q B m d k y w hh hk h1 h2 h3 h4 (by omega)
end Go.Proofs.Ytfabpkcgdblnbaa
