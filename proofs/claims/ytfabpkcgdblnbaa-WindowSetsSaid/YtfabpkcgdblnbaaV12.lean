/-
  least, Both and Either of the reference; the law WindowPairs. Conditions: the hours lie in memory.
-/
import Derived.Test.YtfabpkcgdblnbaaV11
namespace Go.Proofs.Ytfabpkcgdblnbaa
set_option linter.unusedVariables false
set_option linter.unusedSimpArgs false
open Go.RowKit

def leastOf (mn : Int) (P : Int) (n : Nat) (h : Nat → Int) (Q : Int) (m : Nat) (k : Nat → Int) : WV :=
  if winB P n h 60 && winB Q m k 60 then wvOk (Nat.lcm P.toNat Q.toNat) (fun j => decide (mn ≤ cntI P.toNat Q.toNat (opn n h) (opn m k) j)) else wvErr 50
theorem leastOf_no {mn : Int} {P : Int} {n : Nat} {h : Nat → Int} {Q : Int} {m : Nat} {k : Nat → Int} (e : (winB P n h 60 && winB Q m k 60) = false) : leastOf mn P n h Q m k = wvErr 50 := by unfold leastOf; rw [e]; rfl
theorem leastOf_yes {mn : Int} {p : Nat} {n : Nat} {h : Nat → Int} {q : Nat} {m : Nat} {k : Nat → Int} (hv : winB p n h 60 = true) (hu : winB q m k 60 = true) :
    leastOf mn p n h q m k = wvOk (Nat.lcm p q) (fun j => decide (mn ≤ cntI p q (opn n h) (opn m k) j)) := by unfold leastOf; rw [hv, hu]; rfl
theorem least_both (P : Int) (n : Nat) (h : Nat → Int) (Q : Int) (m : Nat) (k : Nat → Int) : leastOf 2 P n h Q m k = togOf and P n h Q m k := by
  unfold leastOf togOf cntI
  split
  · refine wvOk_congr fun j _ => ?_
    cases opn n h (j % P.toNat) <;> cases opn m k (j % Q.toNat) <;> rfl
  · rfl
theorem least_either (P : Int) (n : Nat) (h : Nat → Int) (Q : Int) (m : Nat) (k : Nat → Int) : leastOf 1 P n h Q m k = togOf or P n h Q m k := by
  unfold leastOf togOf cntI
  split
  · refine wvOk_congr fun j _ => ?_
    cases opn n h (j % P.toNat) <;> cases opn m k (j % Q.toNat) <;> rfl
  · rfl

/-- two boxes and the result's -/
structure KR (w0 w : World) (P Q : Int) (A B : Option Addr) (n c m d : Nat) (h k : Nat → Int) : Prop where
  k : KW2 w0 w w0.heap.size (w0.heap.size + 1) P Q A B n c m d h k
  r : Blk w (w0.heap.size + 2) 40 #[.int .i64 0, .slice none 0 0]
theorem KR.next {w0 w w' : World} {P Q : Int} {A B : Option Addr} {n c m d : Nat} {h k : Nat → Int} (K : KR w0 w P Q A B n c m d h k) (hb : Below w.heap.size w w') : KR w0 w' P Q A B n c m d h k := ⟨K.k.next hb, K.r.below' hb⟩
theorem KR.new {w : World} {P Q : Int} {A B : Option Addr} {n c m d : Nat} {h k : Nat → Int} (hh : HoursAt w A n h) (hk : HoursAt w B m k) :
    KR w (((w.alloc (.cells #[.int .i64 P, .slice A n c] 40)).alloc (.cells #[.int .i64 Q, .slice B m d] 40)).alloc (.cells #[.int .i64 0, .slice none 0 0] 40)) P Q A B n c m d h k := by
  refine ⟨(KW2.new hh hk).next (box_bel _ _), ?_⟩
  have := Blk.new ((w.alloc (.cells #[.int .i64 P, .slice A n c] 40)).alloc (.cells #[.int .i64 Q, .slice B m d] 40)) 40 #[.int .i64 0, .slice none 0 0]
  simpa using this
theorem KR.done {w0 w : World} {P Q : Int} {A B : Option Addr} {n c m d : Nat} {h k : Nat → Int} (K : KR w0 w P Q A B n c m d h k) (x y : Value) : Below w0.heap.size w0 ((w.setCell ⟨w0.heap.size + 2, 0, none⟩ x).setCell ⟨w0.heap.size + 2, 1, none⟩ y) :=
  bel_set2 K.k.v.bel (by omega) x y
set_option maxHeartbeats 2000000 in
theorem least_any (mn : Int) (P Q : Int) (A B : Option Addr) (n c m d : Nat) (h k : Nat → Int) (w : World) (hh : HoursAt w A n h) (hk : HoursAt w B m k) :
    Calls Try.prog 83 #[.agg #[.int .i64 P, .slice A n c], .agg #[.int .i64 Q, .slice B m d], .int .i64 mn] w (WinV w (leastOf mn P n h Q m k)) := by
  have K := KR.new (P := P) (Q := Q) (c := c) (d := d) hh hk
  have hk0 := K.k.v.c0
  have hk1 := K.k.v.c1
  clear hh hk
  cases hv : winB P n h 60
  · rw [leastOf_no (by rw [hv]; rfl)]
    clear hk0 hk1
    go_enter Try.func83, Try.ntmps83
    go_wp2_with (go_at_call 47; refine (rValid_any _ _ _ _ _ _ K.k.v.hrs).mono ?_; rintro e w1 ⟨rfl, hb⟩; replace K := K.next hb; have hd0 := blk_c0 K.r; have hd1 := blk_c1 K.r; have hf0 := K.r.frozen 0; have hf1 := K.r.frozen 1; clear hb)
    refine bodyPost_ret (v := .tuple #[.agg #[.int .i64 0, .slice none 0 0], .int .i64 50]) (by simp [results, Try.results83, go_sem, hd0, hd1, hf0, hf1]) rfl ⟨none, 0, rfl, hoursGe_none _ _, K.done _ _⟩
  · cases hu : winB Q m k 60
    · rw [leastOf_no (by rw [hv, hu]; rfl)]
      have HV := hid hv
      have HU := hid hu
      clear hk0 hk1 hv hu
      go_enter Try.func83, Try.ntmps83
      go_wp2_with fail
      refine (rValid_any _ _ _ _ _ _ K.k.v.hrs).mono ?_
      rintro e w1 ⟨rfl, hb⟩
      rw [HV.out]
      replace K := K.next hb
      have hk2 := K.k.u.c0
      have hk3 := K.k.u.c1
      clear hb
      go_wp2_with fail
      refine (rValid_any _ _ _ _ _ _ K.k.u.hrs).mono ?_
      rintro e w1 ⟨rfl, hb⟩
      rw [HU.out]
      replace K := K.next hb
      have hd0 := blk_c0 K.r
      have hd1 := blk_c1 K.r
      have hf0 := K.r.frozen 0
      have hf1 := K.r.frozen 1
      clear hb hk2 hk3
      go_wp2
      refine bodyPost_ret (v := .tuple #[.agg #[.int .i64 0, .slice none 0 0], .int .i64 50]) (by simp [results, Try.results83, go_sem, hd0, hd1, hf0, hf1]) rfl ⟨none, 0, rfl, hoursGe_none _ _, K.done _ _⟩
    · have hv1 := (winB_true.1 hv).1
      have hu1 := (winB_true.1 hu).1
      obtain ⟨p, rfl⟩ := Int.eq_ofNat_of_zero_le (show 0 ≤ P by omega)
      obtain ⟨q, rfl⟩ := Int.eq_ofNat_of_zero_le (show 0 ≤ Q by omega)
      rw [leastOf_yes hv hu]
      have HV := hid hv
      have HU := hid hu
      have HJ := hid fun W hA hB => joined_any p q A B n c m d h k W hA hB hv hu
      have hL1 : Nat.lcm p q ≤ 60 * 60 := Nat.le_trans (Nat.le_of_dvd (Nat.mul_pos (by omega) (by omega)) (Nat.lcm_dvd_mul p q)) (Nat.mul_le_mul (by omega) (by omega))
      generalize Nat.lcm p q = L at *
      generalize cntI p q (opn n h) (opn m k) = cnt at *
      clear hk0 hk1 hv hu
      go_enter Try.func83, Try.ntmps83
      go_wp2_with fail
      refine (rValid_any _ _ _ _ _ _ K.k.v.hrs).mono ?_
      rintro e w1 ⟨rfl, hb⟩
      rw [HV.out]
      replace K := K.next hb
      have hk2 := K.k.u.c0
      have hk3 := K.k.u.c1
      clear hb
      go_wp2_with fail
      refine (rValid_any _ _ _ _ _ _ K.k.u.hrs).mono ?_
      rintro e w1 ⟨rfl, hb⟩
      rw [HU.out]
      replace K := K.next hb
      have hk0 := K.k.v.c0
      have hk1 := K.k.v.c1
      replace hk2 := K.k.u.c0
      replace hk3 := K.k.u.c1
      clear hb
      go_wp2_with fail
      refine (HJ.out _ K.k.v.hrs K.k.u.hrs).mono ?_
      rintro e w3 ⟨gj, rfl, hgj, hblk, hb⟩
      replace K := K.next hb
      clear hb hk0 hk1 hk2 hk3
      have HJB := hid hblk
      clear hblk
      have hmk := run_mkb 81 Try.underlying81 L (by omega) w3
      go_wp2_with fail
      clear hmk
      have B0 := hid (Blk.new w3 4 (tabA L fun _ => false))
      have J0 := hid (HJB.out.alloc (.cells (tabA L fun _ => false) 4))
      have K0 : Hid (Below w.heap.size w (w3.alloc (.cells (tabA L fun _ => false) 4)) ∧ Blk (w3.alloc (.cells (tabA L fun _ => false) 4)) (w.heap.size + 2) 40 #[.int .i64 0, .slice none 0 0]) := hid ⟨(K.next (box_bel w3 (.cells (tabA L fun _ => false) 4))).k.v.bel, (K.next (box_bel w3 (.cells (tabA L fun _ => false) 4))).r⟩
      have hgj2 := HJB.out.lt
      have hlt3 := K.r.lt
      clear K
      go_loopw [28] (fun i wr => ∃ x : Nat, x ≤ L ∧ i = .int .i64 x ∧ Blk wr w3.heap.size 4 (tabA L (upTo x fun j => decide (mn ≤ cnt j))) ∧ Blk wr gj 3 (tabI L cnt) ∧ Below w.heap.size w wr ∧ Blk wr (w.heap.size + 2) 40 #[.int .i64 0, .slice none 0 0]) (fun i _ => L - (intOf i).toNat)
      case atStart => exact ⟨0, by omega, rfl, by rw [← upTo_zero]; exact B0.out, J0.out, K0.out.1, K0.out.2⟩
      case round =>
        obtain ⟨x, hx, rfl, hblk, hj, hbel, hres⟩ := hrel
        by_cases hlt : x < L
        · have hc0 := (hj.cell x).trans (tabI_get _ hlt)
          have hc2 := (hblk.cell x).trans (tabA_get _ hlt)
          have hf2 := hblk.frozen x
          have HB := hid hblk
          have HJ2 := hid hj
          have K2 := hid hbel
          have K3 := hid hres
          have HS := hid (upTo_step L x (fun j => decide (mn ≤ cnt j)))
          clear hblk hj hbel hres
          go_wp2
          go_roundw
          case rel =>
            refine ⟨x + 1, by omega, by go_num, by (have := HB.out.set_ x (.bool (decide (mn ≤ cnt x))); rw [tabA_set, HS.out] at this; exact this), HJ2.out.far (p := ⟨w3.heap.size, x, none⟩) (by simp; omega) _, K2.out.setCell (p := ⟨w3.heap.size, x, none⟩) (by show w.heap.size ≤ w3.heap.size; omega) _, K3.out.far (p := ⟨w3.heap.size, x, none⟩) (by simp; omega) _⟩
          case measure => simp [intOf]; omega
        · obtain rfl : x = L := by omega
          have HB := hid (BoolsAt.of_blk (by rw [upTo_all] at hblk; exact hblk))
          have K2 := hid hbel
          have K3 := hid hres
          clear hblk hj hbel hres
          go_wp2_with (go_at_call 95; refine (rWindow_any _ _ _ _ _ HB.out (by omega)).mono ?_; rintro e w5 ⟨A4, c4, rfl, hh4, hb4⟩; have K5 := K3.out.below' hb4; have hd0 := blk_c0 K5; have hd1 := blk_c1 K5; have hf0 := K5.frozen 0; have hf1 := K5.frozen 1)
          refine bodyPost_ret (v := .tuple #[.agg #[.int .i64 (x : Int), .slice A4 (hsL (fun j => decide (mn ≤ cnt j)) x).length c4], .int .i64 0]) (by simp [results, Try.results83, go_sem, hd0, hd1, hf0, hf1]) rfl ⟨A4, c4, rfl, ?_, bel_set2 (btr K2.out hb4 K2.out.size) (by omega) _ _⟩
          have hl2 := K3.out.lt
          exact (hge_set2 hh4 hl2 _ _).mono (B' := w.heap.size) (by omega)
set_option maxHeartbeats 1000000 in
theorem rBoth_any (P Q : Int) (A B : Option Addr) (n c m d : Nat) (h k : Nat → Int) (w : World) (hh : HoursAt w A n h) (hk : HoursAt w B m k) :
    Calls Try.prog 39 #[.agg #[.int .i64 P, .slice A n c], .agg #[.int .i64 Q, .slice B m d]] w (WinV w (togOf and P n h Q m k)) := by
  rw [← least_both]
  have K := KR.new (P := P) (Q := Q) (c := c) (d := d) hh hk
  have HT := hid (least_any 2 P Q A B n c m d h k _ K.k.v.hrs K.k.u.hrs)
  generalize leastOf 2 P n h Q m k = v at *
  go_enter Try.func39, Try.ntmps39
  go_wp2_with (go_at_call 83; refine (HT.out).mono ?_; rintro e w5 ⟨A4, c4, rfl, hh4, hb4⟩; have K5 := K.next hb4; have hd0 := blk_c0 K5.r; have hd1 := blk_c1 K5.r; have hf0 := K5.r.frozen 0; have hf1 := K5.r.frozen 1)
  refine bodyPost_ret (v := .tuple #[.agg #[.int .i64 v.per, .slice A4 v.len c4], .int .i64 v.err]) (by simp [results, Try.results39, go_sem, hd0, hd1, hf0, hf1]) rfl ⟨A4, c4, rfl, ?_, K5.done _ _⟩
  exact (hge_set2 hh4 (show w.heap.size + 2 < _ by simp) _ _).mono (B' := w.heap.size) (by simp; omega)
set_option maxHeartbeats 1000000 in
theorem rEither_any (P Q : Int) (A B : Option Addr) (n c m d : Nat) (h k : Nat → Int) (w : World) (hh : HoursAt w A n h) (hk : HoursAt w B m k) :
    Calls Try.prog 41 #[.agg #[.int .i64 P, .slice A n c], .agg #[.int .i64 Q, .slice B m d]] w (WinV w (togOf or P n h Q m k)) := by
  rw [← least_either]
  have K := KR.new (P := P) (Q := Q) (c := c) (d := d) hh hk
  have HT := hid (least_any 1 P Q A B n c m d h k _ K.k.v.hrs K.k.u.hrs)
  generalize leastOf 1 P n h Q m k = v at *
  go_enter Try.func41, Try.ntmps41
  go_wp2_with (go_at_call 83; refine (HT.out).mono ?_; rintro e w5 ⟨A4, c4, rfl, hh4, hb4⟩; have K5 := K.next hb4; have hd0 := blk_c0 K5.r; have hd1 := blk_c1 K5.r; have hf0 := K5.r.frozen 0; have hf1 := K5.r.frozen 1)
  refine bodyPost_ret (v := .tuple #[.agg #[.int .i64 v.per, .slice A4 v.len c4], .int .i64 v.err]) (by simp [results, Try.results41, go_sem, hd0, hd1, hf0, hf1]) rfl ⟨A4, c4, rfl, ?_, K5.done _ _⟩
  exact (hge_set2 hh4 (show w.heap.size + 2 < _ by simp) _ _).mono (B' := w.heap.size) (by simp; omega)

/-! ### the law -/
set_option maxRecDepth 100000 in
set_option maxHeartbeats 1000000 in
theorem pairs_skip (P : Int) (A : Option Addr) (n c : Nat) (h : Nat → Int) (Q : Int) (B : Option Addr) (m d : Nat) (k : Nat → Int) (w : World) (hh : HoursAt w A n h) (hk : HoursAt w B m k)
    (hs : (4000 : Int) < n ∨ (4000 : Int) < m) :
    Calls Try.prog 8 #[.agg #[.int .i64 P, .slice A n c], .agg #[.int .i64 Q, .slice B m d]] w fun e w' => e = .returned (.bool true) ∧ Below w.heap.size w w' := by
  have K := KW2.new (P := P) (Q := Q) (c := c) (d := d) hh hk
  have hk0 := K.v.c0
  have hk1 := K.v.c1
  have hk2 := K.u.c0
  have hk3 := K.u.c1
  clear hh hk
  have key : (4000 : Int) < n ∨ (¬ (4000 : Int) < n ∧ (4000 : Int) < m) := by omega
  clear hs
  rcases key with h1 | ⟨h1, h2⟩
  all_goals
    go_enter Try.func8, Try.ntmps8
    go_wp2_with (first
      | (go_at_call 30; refine (lWide_any _ _ _ _ _).mono ?_; rintro e w1 ⟨rfl, hb⟩; replace K := K.next hb; replace hk0 := K.v.c0; replace hk1 := K.v.c1; replace hk2 := K.u.c0; replace hk3 := K.u.c1; clear hb)
      | (go_at_call 19; refine (awake_any _).mono ?_; rintro e w2 ⟨rfl, hb⟩; replace K := K.next hb; clear hb hk0 hk1 hk2 hk3))
    go_ret
    exact ⟨rfl, K.v.bel⟩
set_option maxRecDepth 100000 in
set_option maxHeartbeats 2000000 in
theorem pairs_good (P : Int) (A : Option Addr) (n c : Nat) (h : Nat → Int) (Q : Int) (B : Option Addr) (m d : Nat) (k : Nat → Int) (w : World) (hh : HoursAt w A n h) (hk : HoursAt w B m k)
    (hl1 : ¬ (4000 : Int) < n) (hl2 : ¬ (4000 : Int) < m) :
    Calls Try.prog 8 #[.agg #[.int .i64 P, .slice A n c], .agg #[.int .i64 Q, .slice B m d]] w fun e w' => e = .returned (.bool true) ∧ Below w.heap.size w w' := by
  have K := KW2.new (P := P) (Q := Q) (c := c) (d := d) hh hk
  have hk0 := K.v.c0
  have hk1 := K.v.c1
  have hk2 := K.u.c0
  have hk3 := K.u.c1
  clear hh hk
  have WB := hid fun W hA hB => wBoth_any P Q A B n c m d h k W hA hB
  have RB := hid fun W hA hB => rBoth_any P Q A B n c m d h k W hA hB
  have WE := hid fun W hA hB => wEither_any P Q A B n c m d h k W hA hB
  have RE := hid fun W hA hB => rEither_any P Q A B n c m d h k W hA hB
  generalize togOf and P n h Q m k = x at *
  generalize togOf or P n h Q m k = y at *
  go_enter Try.func8, Try.ntmps8
  go_wp2_with (go_at_call 30; refine (lWide_any _ _ _ _ _).mono ?_; rintro e w1 ⟨rfl, hb⟩; replace K := K.next hb; replace hk0 := K.v.c0; replace hk1 := K.v.c1; replace hk2 := K.u.c0; replace hk3 := K.u.c1; clear hb)
  refine (WB.out _ K.v.hrs K.u.hrs).mono ?_
  rintro e v0 ⟨A0, c0, rfl, hh0, hb⟩
  replace K := K.next hb
  replace hk0 := K.v.c0
  replace hk1 := K.v.c1
  replace hk2 := K.u.c0
  replace hk3 := K.u.c1
  have s1 := K.v.lt
  have s2 := K.u.lt
  have Ka := KW.put (Q := x.per) (d := c0) K.v.bel hh0.at_
  have K' := K.next (box_bel v0 (.cells #[.int .i64 x.per, .slice A0 x.len c0] 40))
  have Ka' := Ka
  clear hb hh0
  go_wp2_with fail
  refine (RB.out _ K'.v.hrs K'.u.hrs).mono ?_
  rintro e v1 ⟨A1, c1, rfl, hh1, hb⟩
  replace K := K'.next hb
  replace Ka := Ka'.next hb
  replace hk0 := K.v.c0
  replace hk1 := K.v.c1
  replace hk2 := K.u.c0
  replace hk3 := K.u.c1
  have s1 := K.v.lt
  have s2 := K.u.lt
  have Kb := KW.put (Q := x.per) (d := c1) K.v.bel hh1.at_
  have K' := K.next (box_bel v1 (.cells #[.int .i64 x.per, .slice A1 x.len c1] 40))
  have Ka' := Ka.next (box_bel v1 (.cells #[.int .i64 x.per, .slice A1 x.len c1] 40))
  have Kb' := Kb
  clear hb hh1
  go_wp2_with fail
  refine (WE.out _ K'.v.hrs K'.u.hrs).mono ?_
  rintro e v2 ⟨A2, c2, rfl, hh2, hb⟩
  replace K := K'.next hb
  replace Ka := Ka'.next hb
  replace Kb := Kb'.next hb
  replace hk0 := K.v.c0
  replace hk1 := K.v.c1
  replace hk2 := K.u.c0
  replace hk3 := K.u.c1
  have s1 := K.v.lt
  have s2 := K.u.lt
  have Kc := KW.put (Q := y.per) (d := c2) K.v.bel hh2.at_
  have K' := K.next (box_bel v2 (.cells #[.int .i64 y.per, .slice A2 y.len c2] 40))
  have Ka' := Ka.next (box_bel v2 (.cells #[.int .i64 y.per, .slice A2 y.len c2] 40))
  have Kb' := Kb.next (box_bel v2 (.cells #[.int .i64 y.per, .slice A2 y.len c2] 40))
  have Kc' := Kc
  clear hb hh2
  go_wp2_with fail
  refine (RE.out _ K'.v.hrs K'.u.hrs).mono ?_
  rintro e v3 ⟨A3, c3, rfl, hh3, hb⟩
  replace K := K'.next hb
  replace Ka := Ka'.next hb
  replace Kb := Kb'.next hb
  replace Kc := Kc'.next hb
  replace hk0 := K.v.c0
  replace hk1 := K.v.c1
  replace hk2 := K.u.c0
  replace hk3 := K.u.c1
  have s1 := K.v.lt
  have s2 := K.u.lt
  have Kd := KW.put (Q := y.per) (d := c3) K.v.bel hh3.at_
  have K' := K.next (box_bel v3 (.cells #[.int .i64 y.per, .slice A3 y.len c3] 40))
  have Ka' := Ka.next (box_bel v3 (.cells #[.int .i64 y.per, .slice A3 y.len c3] 40))
  have Kb' := Kb.next (box_bel v3 (.cells #[.int .i64 y.per, .slice A3 y.len c3] 40))
  have Kc' := Kc.next (box_bel v3 (.cells #[.int .i64 y.per, .slice A3 y.len c3] 40))
  have Kd' := Kd
  clear hb hh3
  have ha0 := Ka.c0
  have ha1 := Ka.c1
  have hb0 := Kb.c0
  have hb1 := Kb.c1
  have s3 := Ka.lt
  have s4 := Kb.lt
  clear hk0 hk1 hk2 hk3
  go_wp2_with fail
  refine (equal_any _ _ _ _ _ _ _ _ _ _ _ Ka'.hrs Kb'.hrs).mono ?_
  rintro e v4 ⟨rfl, hb⟩
  rw [eqWin_refl]
  replace Kc := Kc'.next hb
  replace Kd := Kd'.next hb
  clear ha0 ha1 hb0 hb1 s1 s2 s3 s4 hb Ka Kb Ka' Kb' Kc' Kd' K' K
  have ha0 := Kc.c0
  have ha1 := Kc.c1
  have hb0 := Kd.c0
  have hb1 := Kd.c1
  go_wp2_with fail
  refine (equal_any _ _ _ _ _ _ _ _ _ _ _ Kc.hrs Kd.hrs).mono ?_
  rintro e v5 ⟨rfl, hb⟩
  rw [eqWin_refl]
  replace Kc := Kc.next hb
  clear hb Kd ha0 ha1 hb0 hb1
  go_wp2_with (go_at_call 19; refine (awake_any _).mono ?_; rintro e w1 ⟨rfl, hb⟩; replace Kc := Kc.next hb; clear hb)
  go_ret
  exact ⟨rfl, Kc.bel⟩
theorem windowPairs_walk (P : Int) (A : Option Addr) (n c : Nat) (h : Nat → Int) (Q : Int) (B : Option Addr) (m d : Nat) (k : Nat → Int) (w : World) (hh : HoursAt w A n h) (hk : HoursAt w B m k) :
    Calls Try.prog 8 #[.agg #[.int .i64 P, .slice A n c], .agg #[.int .i64 Q, .slice B m d]] w fun e w' => e = .returned (.bool true) ∧ Below w.heap.size w w' := by
  by_cases hs : (4000 : Int) < n ∨ (4000 : Int) < m
  · exact pairs_skip P A n c h Q B m d k w hh hk hs
  · exact pairs_good P A n c h Q B m d k w hh hk (by omega) (by omega)
end Go.Proofs.Ytfabpkcgdblnbaa
