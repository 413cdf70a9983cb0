/-
  together, Both and Either of the program: what each returns. Conditions: the hours lie in memory.
-/
import Derived.Test.YtfabpkcgdblnbaaV9
namespace Go.Proofs.Ytfabpkcgdblnbaa
set_option linter.unusedVariables false
set_option linter.unusedSimpArgs false
open Go.RowKit

/-- the window of two that are taken together hour by hour -/
def togOf (op : Bool → Bool → Bool) (P : Int) (n : Nat) (h : Nat → Int) (Q : Int) (m : Nat) (k : Nat → Int) : WV :=
  if winB P n h 60 && winB Q m k 60 then wvOk (Nat.lcm P.toNat Q.toNat) (fun j => op (opn n h (j % P.toNat)) (opn m k (j % Q.toNat))) else wvErr 50
theorem togOf_no {op : Bool → Bool → Bool} {P : Int} {n : Nat} {h : Nat → Int} {Q : Int} {m : Nat} {k : Nat → Int} (e : (winB P n h 60 && winB Q m k 60) = false) : togOf op P n h Q m k = wvErr 50 := by unfold togOf; rw [e]; rfl
theorem togOf_yes {op : Bool → Bool → Bool} {p : Nat} {n : Nat} {h : Nat → Int} {q : Nat} {m : Nat} {k : Nat → Int} (hv : winB p n h 60 = true) (hu : winB q m k 60 = true) :
    togOf op p n h q m k = wvOk (Nat.lcm p q) (fun j => op (opn n h (j % p)) (opn m k (j % q))) := by unfold togOf; rw [hv, hu]; rfl

/-- what is kept in together -/
structure KT (w0 w : World) (P Q : Int) (A B : Option Addr) (n c m d : Nat) (h k : Nat → Int) (fv : Value) : Prop where
  k : KW2 w0 w w0.heap.size (w0.heap.size + 1) P Q A B n c m d h k
  f : w.cell? ⟨w0.heap.size + 2, 0, none⟩ = some fv
  r : Blk w (w0.heap.size + 3) 40 #[.int .i64 0, .slice none 0 0]
theorem KT.next {w0 w w' : World} {P Q : Int} {A B : Option Addr} {n c m d : Nat} {h k : Nat → Int} {fv : Value} (K : KT w0 w P Q A B n c m d h k fv) (hb : Below w.heap.size w w') : KT w0 w' P Q A B n c m d h k fv :=
  ⟨K.k.next hb, (hb.cell (p := ⟨w0.heap.size + 2, 0, none⟩) (by have := K.r.lt; show w0.heap.size + 2 < w.heap.size; omega)).trans K.f, K.r.below' hb⟩
theorem KT.new {w : World} {P Q : Int} {A B : Option Addr} {n c m d : Nat} {h k : Nat → Int} {fv : Value} (hh : HoursAt w A n h) (hk : HoursAt w B m k) :
    KT w ((((w.alloc (.cells #[.int .i64 P, .slice A n c] 40)).alloc (.cells #[.int .i64 Q, .slice B m d] 40)).alloc (.cells #[fv] 91)).alloc (.cells #[.int .i64 0, .slice none 0 0] 40)) P Q A B n c m d h k fv := by
  refine ⟨((KW2.new hh hk).next (box_bel _ _)).next (box_bel _ _), ?_, ?_⟩
  · have h1 := Blk.new ((w.alloc (.cells #[.int .i64 P, .slice A n c] 40)).alloc (.cells #[.int .i64 Q, .slice B m d] 40)) 91 #[fv]
    have h2 := (h1.alloc (.cells #[.int .i64 0, .slice none 0 0] 40)).cell 0
    simpa using h2
  · have h1 := Blk.new (((w.alloc (.cells #[.int .i64 P, .slice A n c] 40)).alloc (.cells #[.int .i64 Q, .slice B m d] 40)).alloc (.cells #[fv] 91)) 40 #[.int .i64 0, .slice none 0 0]
    simpa using h1
theorem KT.lt {w0 w : World} {P Q : Int} {A B : Option Addr} {n c m d : Nat} {h k : Nat → Int} {fv : Value} (K : KT w0 w P Q A B n c m d h k fv) : w0.heap.size + 3 < w.heap.size := K.r.lt


/-! ### both -/
theorem both1_any (a b : Bool) (w : World) : Calls Try.prog 82 #[.bool a, .bool b] w fun e w' => e = .returned (.bool (and a b)) ∧ w = w' := by
  cases a <;> cases b
  all_goals
    go_enter Try.func82, Try.ntmps82
    go_wp2
    go_ret
    exact ⟨rfl, rfl⟩
theorem both99_any (t u z g1 p c1 g2 q c2 : Nat) (f g : Nat → Bool) (x : Nat) (w : World) (hp : 1 ≤ p) (hp2 : p ≤ 1000000) (hq : 1 ≤ q) (hq2 : q ≤ 1000000)
    (hc : w.cell? ⟨t, 0, none⟩ = some (.func (.func 82) #[] #[])) (hu : w.cell? ⟨u, 0, none⟩ = some (.slice (some ⟨g1, 0, none⟩) p c1)) (hz : w.cell? ⟨z, 0, none⟩ = some (.slice (some ⟨g2, 0, none⟩) q c2))
    (hb1 : BoolsAt w g1 0 p f) (hb2 : BoolsAt w g2 0 q g) :
    Calls Try.prog 99 #[.int .i64 (x : Int), .pointer (some ⟨t, 0, none⟩), .pointer (some ⟨u, 0, none⟩), .pointer (some ⟨z, 0, none⟩)] w fun e w' => e = .returned (.bool (and (f (x % p)) (g (x % q)))) ∧ Below w.heap.size w w' := by
  generalize hX : f (x % p) = X
  generalize hY : g (x % q) = Y
  have Q1 := hid fun (j : Nat) => Calls.quiet_of (v := .bool X) (n := j) ((at_any g1 p c1 f x (w.drewN j) hb1 hp hp2 (by omega)).mono fun e w' ⟨he, hw⟩ => ⟨by rw [he, Int.toNat_natCast, hX], 0, by rw [← hw]; rfl⟩)
  have Q2 := hid fun (j : Nat) => Calls.quiet_of (v := .bool Y) (n := j) ((at_any g2 q c2 g x (w.drewN j) hb2 hq hq2 (by omega)).mono fun e w' ⟨he, hw⟩ => ⟨by rw [he, Int.toNat_natCast, hY], 0, by rw [← hw]; rfl⟩)
  have Q3 := hid fun (j : Nat) => Calls.quiet_of (v := .bool (and X Y)) (n := j) ((both1_any X Y (w.drewN j)).mono fun e w' ⟨he, hw⟩ => ⟨he, 0, by rw [← hw]; rfl⟩)
  clear hX hY hb1 hb2
  go_enter Try.func99, Try.ntmps99
  go_wp2_with fail
  go_quiet (first
    | (go_at_call_of 73 (Value.slice (some ⟨g1, 0, none⟩) p c1); exact Q1.out _)
    | (go_at_call_of 73 (Value.slice (some ⟨g2, 0, none⟩) q c2); exact Q2.out _)
    | (go_at_call 82; exact Q3.out _))
  go_wp2
  go_ret
  exact ⟨rfl, bdn (Below.refl _ _) _⟩

set_option maxHeartbeats 2000000 in
theorem both_tog (P Q : Int) (A B : Option Addr) (n c m d : Nat) (h k : Nat → Int) (w : World) (hh : HoursAt w A n h) (hk : HoursAt w B m k) :
    Calls Try.prog 81 #[.agg #[.int .i64 P, .slice A n c], .agg #[.int .i64 Q, .slice B m d], .func (.func 82) #[] #[]] w (WinV w (togOf and P n h Q m k)) := by
  have K := KT.new (P := P) (Q := Q) (c := c) (d := d) (fv := .func (.func 82) #[] #[]) hh hk
  clear hh hk
  cases hc : (winB P n h 60 && winB Q m k 60)
  · rw [togOf_no hc]
    go_enter Try.func81, Try.ntmps81
    go_wp2_with fail
    refine (newOpen_any _ _ _ _ _ _ _ K.k.v.hrs (by omega)).mono ?_
    rintro e w1 ⟨A1, p1, c1, rfl, hb1⟩
    replace K := K.next hb1
    have hk2 := K.k.u.c0
    have hk3 := K.k.u.c1
    have s1 := K.k.u.lt
    have s2 := K.lt
    have K' := hid (K.next (box_bel w1 (.cells #[.slice A1 p1 c1] 82)))
    have s3 : w.heap.size + 3 < w1.heap.size := K.lt
    clear hb1
    go_wp2_with fail
    refine (newOpen_any _ _ _ _ _ _ _ K'.out.k.u.hrs (by omega)).mono ?_
    rintro e w2 ⟨A2, p2, c2, rfl, hb2⟩
    replace K := K'.out.next hb2
    have hsz := hb2.size
    simp at hsz
    have s4 : w1.heap.size < w2.heap.size := by omega
    have hq : w2.cell? ⟨w1.heap.size, 0, none⟩ = some (.slice A1 p1 c1) := by
      rw [hb2.cell (p := ⟨w1.heap.size, 0, none⟩) (by simp)]
      simp
    have hd0 := blk_c0 K.r
    have hd1 := blk_c1 K.r
    have hf0 := K.r.frozen 0
    have hf1 := K.r.frozen 1
    have s5 := K.lt
    clear hb2 K' hk2 hk3
    have hbel := hid (((K.k.v.bel.setCell (p := ⟨w.heap.size + 1 + 1 + 1, 0, none⟩) (by show w.heap.size ≤ w.heap.size + 1 + 1 + 1; omega) (.int .i64 0)).setCell (p := ⟨w.heap.size + 1 + 1 + 1, 1, none⟩) (by show w.heap.size ≤ w.heap.size + 1 + 1 + 1; omega) (.slice none 0 0)).alloc (by simp; omega) (.cells #[.slice A2 p2 c2] 82))
    clear K
    cases hv : winB P n h 60
    · clear hc
      go_wp2
      refine bodyPost_ret (v := .tuple #[.agg #[.int .i64 0, .slice none 0 0], .int .i64 50]) (by simp [results, Try.results81, go_sem, hd0, hd1, hf0, hf1, s5]) rfl ⟨none, 0, rfl, hoursGe_none _ _, hbel.out⟩
    · rw [hv, Bool.true_and] at hc
      go_wp2
      refine bodyPost_ret (v := .tuple #[.agg #[.int .i64 0, .slice none 0 0], .int .i64 50]) (by simp [results, Try.results81, go_sem, hd0, hd1, hf0, hf1, s5]) rfl ⟨none, 0, rfl, hoursGe_none _ _, hbel.out⟩
  · rw [Bool.and_eq_true] at hc
    obtain ⟨hv, hu⟩ := hc
    have hv1 := (winB_true.1 hv).1
    have hu1 := (winB_true.1 hu).1
    obtain ⟨p, rfl⟩ := Int.eq_ofNat_of_zero_le (show 0 ≤ P by omega)
    obtain ⟨q, rfl⟩ := Int.eq_ofNat_of_zero_le (show 0 ≤ Q by omega)
    rw [togOf_yes hv hu]
    have hL := lcmI_nat p q
    have hL1 : Nat.lcm p q ≤ 60 * 60 := Nat.le_trans (Nat.le_of_dvd (Nat.mul_pos (by omega) (by omega)) (Nat.lcm_dvd_mul p q)) (Nat.mul_le_mul (by omega) (by omega))
    generalize Nat.lcm p q = L at *
    have HV := hid hv
    have HU := hid hu
    have HL := hid hL
    clear hv hu hL
    go_enter Try.func81, Try.ntmps81
    go_wp2_with fail
    refine (newOpen_yes _ _ _ _ _ _ _ K.k.v.hrs (by omega) HV.out).mono ?_
    rintro e w1 ⟨g1, rfl, hg1, hblk1, hb1⟩
    replace K := K.next hb1
    have hk2 := K.k.u.c0
    have hk3 := K.k.u.c1
    have s1 := K.k.u.lt
    have s3 : w.heap.size + 3 < w1.heap.size := K.lt
    have K' := hid (K.next (box_bel w1 (.cells #[.slice (some ⟨g1, 0, none⟩) p p] 82)))
    have HB1 := hid ((BoolsAt.of_blk hblk1).alloc (.cells #[.slice (some ⟨g1, 0, none⟩) p p] 82))
    clear hb1 hblk1
    go_wp2_with fail
    refine (newOpen_yes _ _ _ _ _ _ _ K'.out.k.u.hrs (by omega) HU.out).mono ?_
    rintro e w2 ⟨g2, rfl, hg2, hblk2, hb2⟩
    replace K := K'.out.next hb2
    have hsz := hb2.size
    simp at hsz
    have s4 : w1.heap.size < w2.heap.size := by omega
    have hq : w2.cell? ⟨w1.heap.size, 0, none⟩ = some (.slice (some ⟨g1, 0, none⟩) p p) := by
      rw [hb2.cell (p := ⟨w1.heap.size, 0, none⟩) (by simp)]
      simp
    have HB1' := hid (HB1.out.below hb2)
    have HB2 := hid (BoolsAt.of_blk hblk2)
    have hf2 := K.f
    clear hb2 hblk2 hk2 hk3 K' HB1
    go_wp2_with fail
    refine (common_any p q _ (by omega) (by omega) (by omega) (by have := Int.mul_le_mul (show (p : Int) ≤ 60 by omega) (show (q : Int) ≤ 60 by omega) (by omega) (by omega); omega) (by omega)).mono ?_
    rintro e w3 ⟨rfl, m3, rfl⟩
    rw [HL.out]
    have K3 := (K.next (box_bel w2 (.cells #[.slice (some ⟨g2, 0, none⟩) q q] 82))).next (bdn (Below.refl _ _) m3)
    have hi0 := K3.f
    have hi1 : ((w2.alloc (.cells #[.slice (some ⟨g2, 0, none⟩) q q] 82)).drewN m3).cell? ⟨w1.heap.size, 0, none⟩ = some (.slice (some ⟨g1, 0, none⟩) p p) := (World.cell?_alloc_lt w2 _ ⟨w1.heap.size, 0, none⟩ s4).trans hq
    have hi2 : ((w2.alloc (.cells #[.slice (some ⟨g2, 0, none⟩) q q] 82)).drewN m3).cell? ⟨w2.heap.size, 0, none⟩ = some (.slice (some ⟨g2, 0, none⟩) q q) := World.cell?_alloc_new w2 #[.slice (some ⟨g2, 0, none⟩) q q] 82 0
    have hj1 := (HB1'.out.alloc (.cells #[.slice (some ⟨g2, 0, none⟩) q q] 82)).drewN m3
    have hj2 := (HB2.out.alloc (.cells #[.slice (some ⟨g2, 0, none⟩) q q] 82)).drewN m3
    have t1 : w1.heap.size < ((w2.alloc (.cells #[.slice (some ⟨g2, 0, none⟩) q q] 82)).drewN m3).heap.size := by simp; omega
    have t2 : w2.heap.size < ((w2.alloc (.cells #[.slice (some ⟨g2, 0, none⟩) q q] 82)).drewN m3).heap.size := by simp
    clear hq hf2
    generalize (w2.alloc (.cells #[.slice (some ⟨g2, 0, none⟩) q q] 82)).drewN m3 = W3 at *
    go_wp2_with fail
    have s5 : w.heap.size + 2 < W3.heap.size := by have := K3.lt; omega
    refine (made99_any L (fun j => and (opn n h (j % p)) (opn m k (j % q))) _ _ _ _ (by omega) (fun W => (W.cell? ⟨w.heap.size + 2, 0, none⟩ = some (.func (.func 82) #[] #[]) ∧ W.cell? ⟨w1.heap.size, 0, none⟩ = some (.slice (some ⟨g1, 0, none⟩) p p) ∧ W.cell? ⟨w2.heap.size, 0, none⟩ = some (.slice (some ⟨g2, 0, none⟩) q q)) ∧ BoolsAt W g1 0 p (opn n h) ∧ BoolsAt W g2 0 q (opn m k)) ⟨⟨hi0, hi1, hi2⟩, hj1, hj2⟩
      (fun W W' hi hb => ⟨⟨(hb.cell (p := ⟨w.heap.size + 2, 0, none⟩) s5).trans hi.1.1, (hb.cell (p := ⟨w1.heap.size, 0, none⟩) t1).trans hi.1.2.1, (hb.cell (p := ⟨w2.heap.size, 0, none⟩) t2).trans hi.1.2.2⟩, hi.2.1.belowB hb hj1.1, hi.2.2.belowB hb hj2.1⟩)
      (fun W x hx hi => both99_any _ _ _ _ _ _ _ _ _ _ _ _ _ (by omega) (by omega) (by omega) (by omega) hi.1.1 hi.1.2.1 hi.1.2.2 hi.2.1 hi.2.2)).mono ?_
    rintro e w4 ⟨g3, rfl, hg3, hblk3, hb3⟩
    have K4 := K3.next hb3
    have HB3 := hid (BoolsAt.of_blk hblk3)
    clear hblk3 hb3 hi0 hi1 hi2 hj1 hj2 K3 K
    go_wp2_with (go_at_call 92; refine (window_any _ _ _ _ _ HB3.out (by omega)).mono ?_; rintro e w5 ⟨A4, c4, rfl, hh4, hb4⟩; have K5 := K4.next hb4; have hd0 := blk_c0 K5.r; have hd1 := blk_c1 K5.r; have hf0 := K5.r.frozen 0; have hf1 := K5.r.frozen 1)
    refine bodyPost_ret (v := .tuple #[.agg #[.int .i64 (L : Int), .slice A4 (hsL (fun j => and (opn n h (j % p)) (opn m k (j % q))) L).length c4], .int .i64 0]) (by simp [results, Try.results81, go_sem, hd0, hd1, hf0, hf1]) rfl ⟨A4, c4, rfl, ?_, ?_⟩
    · have := K4.lt
      exact ((hh4.set_ (a := ⟨w.heap.size + 3, 0, none⟩) this _).set_ (a := ⟨w.heap.size + 3, 1, none⟩) this _).mono (by omega)
    · exact (K5.k.v.bel.setCell (p := ⟨w.heap.size + 3, 0, none⟩) (by simp) _).setCell (p := ⟨w.heap.size + 3, 1, none⟩) (by simp) _

set_option maxHeartbeats 1000000 in
theorem wBoth_any (P Q : Int) (A B : Option Addr) (n c m d : Nat) (h k : Nat → Int) (w : World) (hh : HoursAt w A n h) (hk : HoursAt w B m k) :
    Calls Try.prog 38 #[.agg #[.int .i64 P, .slice A n c], .agg #[.int .i64 Q, .slice B m d]] w (WinV w (togOf and P n h Q m k)) := by
  have K := (KW2.new (P := P) (Q := Q) (c := c) (d := d) hh hk).next (box_bel _ (.cells #[.int .i64 0, .slice none 0 0] 40))
  have R0 : Hid (Blk (((w.alloc (.cells #[.int .i64 P, .slice A n c] 40)).alloc (.cells #[.int .i64 Q, .slice B m d] 40)).alloc (.cells #[.int .i64 0, .slice none 0 0] 40)) (w.heap.size + 2) 40 #[.int .i64 0, .slice none 0 0]) := hid (by
    have := Blk.new ((w.alloc (.cells #[.int .i64 P, .slice A n c] 40)).alloc (.cells #[.int .i64 Q, .slice B m d] 40)) 40 #[.int .i64 0, .slice none 0 0]
    simpa using this)
  have HT := hid (both_tog P Q A B n c m d h k _ K.v.hrs K.u.hrs)
  generalize togOf and P n h Q m k = v at *
  go_enter Try.func38, Try.ntmps38
  go_wp2_with (go_at_call 81; refine (HT.out).mono ?_; rintro e w5 ⟨A4, c4, rfl, hh4, hb4⟩; have K5 := K.next hb4; have R5 := R0.out.below' hb4; have hd0 := blk_c0 R5; have hd1 := blk_c1 R5; have hf0 := R5.frozen 0; have hf1 := R5.frozen 1)
  have s2 : w.heap.size + 2 < w5.heap.size := R5.lt
  refine bodyPost_ret (v := .tuple #[.agg #[.int .i64 v.per, .slice A4 v.len c4], .int .i64 v.err]) (by simp [results, Try.results38, go_sem, hd0, hd1, hf0, hf1]) rfl ⟨A4, c4, rfl, ?_, ?_⟩
  · exact ((hh4.set_ (a := ⟨w.heap.size + 2, 0, none⟩) (by simp) _).set_ (a := ⟨w.heap.size + 2, 1, none⟩) (by simp) _).mono (B' := w.heap.size) (by simp; omega)
  · exact (K5.v.bel.setCell (p := ⟨w.heap.size + 2, 0, none⟩) (by simp) _).setCell (p := ⟨w.heap.size + 2, 1, none⟩) (by simp) _


/-! ### either -/
theorem either1_any (a b : Bool) (w : World) : Calls Try.prog 84 #[.bool a, .bool b] w fun e w' => e = .returned (.bool (or a b)) ∧ w = w' := by
  cases a <;> cases b
  all_goals
    go_enter Try.func84, Try.ntmps84
    go_wp2
    go_ret
    exact ⟨rfl, rfl⟩
theorem either99_any (t u z g1 p c1 g2 q c2 : Nat) (f g : Nat → Bool) (x : Nat) (w : World) (hp : 1 ≤ p) (hp2 : p ≤ 1000000) (hq : 1 ≤ q) (hq2 : q ≤ 1000000)
    (hc : w.cell? ⟨t, 0, none⟩ = some (.func (.func 84) #[] #[])) (hu : w.cell? ⟨u, 0, none⟩ = some (.slice (some ⟨g1, 0, none⟩) p c1)) (hz : w.cell? ⟨z, 0, none⟩ = some (.slice (some ⟨g2, 0, none⟩) q c2))
    (hb1 : BoolsAt w g1 0 p f) (hb2 : BoolsAt w g2 0 q g) :
    Calls Try.prog 99 #[.int .i64 (x : Int), .pointer (some ⟨t, 0, none⟩), .pointer (some ⟨u, 0, none⟩), .pointer (some ⟨z, 0, none⟩)] w fun e w' => e = .returned (.bool (or (f (x % p)) (g (x % q)))) ∧ Below w.heap.size w w' := by
  generalize hX : f (x % p) = X
  generalize hY : g (x % q) = Y
  have Q1 := hid fun (j : Nat) => Calls.quiet_of (v := .bool X) (n := j) ((at_any g1 p c1 f x (w.drewN j) hb1 hp hp2 (by omega)).mono fun e w' ⟨he, hw⟩ => ⟨by rw [he, Int.toNat_natCast, hX], 0, by rw [← hw]; rfl⟩)
  have Q2 := hid fun (j : Nat) => Calls.quiet_of (v := .bool Y) (n := j) ((at_any g2 q c2 g x (w.drewN j) hb2 hq hq2 (by omega)).mono fun e w' ⟨he, hw⟩ => ⟨by rw [he, Int.toNat_natCast, hY], 0, by rw [← hw]; rfl⟩)
  have Q3 := hid fun (j : Nat) => Calls.quiet_of (v := .bool (or X Y)) (n := j) ((either1_any X Y (w.drewN j)).mono fun e w' ⟨he, hw⟩ => ⟨he, 0, by rw [← hw]; rfl⟩)
  clear hX hY hb1 hb2
  go_enter Try.func99, Try.ntmps99
  go_wp2_with fail
  go_quiet (first
    | (go_at_call_of 73 (Value.slice (some ⟨g1, 0, none⟩) p c1); exact Q1.out _)
    | (go_at_call_of 73 (Value.slice (some ⟨g2, 0, none⟩) q c2); exact Q2.out _)
    | (go_at_call 84; exact Q3.out _))
  go_wp2
  go_ret
  exact ⟨rfl, bdn (Below.refl _ _) _⟩

set_option maxHeartbeats 2000000 in
theorem either_tog (P Q : Int) (A B : Option Addr) (n c m d : Nat) (h k : Nat → Int) (w : World) (hh : HoursAt w A n h) (hk : HoursAt w B m k) :
    Calls Try.prog 81 #[.agg #[.int .i64 P, .slice A n c], .agg #[.int .i64 Q, .slice B m d], .func (.func 84) #[] #[]] w (WinV w (togOf or P n h Q m k)) := by
  have K := KT.new (P := P) (Q := Q) (c := c) (d := d) (fv := .func (.func 84) #[] #[]) hh hk
  clear hh hk
  cases hc : (winB P n h 60 && winB Q m k 60)
  · rw [togOf_no hc]
    go_enter Try.func81, Try.ntmps81
    go_wp2_with fail
    refine (newOpen_any _ _ _ _ _ _ _ K.k.v.hrs (by omega)).mono ?_
    rintro e w1 ⟨A1, p1, c1, rfl, hb1⟩
    replace K := K.next hb1
    have hk2 := K.k.u.c0
    have hk3 := K.k.u.c1
    have s1 := K.k.u.lt
    have s2 := K.lt
    have K' := hid (K.next (box_bel w1 (.cells #[.slice A1 p1 c1] 82)))
    have s3 : w.heap.size + 3 < w1.heap.size := K.lt
    clear hb1
    go_wp2_with fail
    refine (newOpen_any _ _ _ _ _ _ _ K'.out.k.u.hrs (by omega)).mono ?_
    rintro e w2 ⟨A2, p2, c2, rfl, hb2⟩
    replace K := K'.out.next hb2
    have hsz := hb2.size
    simp at hsz
    have s4 : w1.heap.size < w2.heap.size := by omega
    have hq : w2.cell? ⟨w1.heap.size, 0, none⟩ = some (.slice A1 p1 c1) := by
      rw [hb2.cell (p := ⟨w1.heap.size, 0, none⟩) (by simp)]
      simp
    have hd0 := blk_c0 K.r
    have hd1 := blk_c1 K.r
    have hf0 := K.r.frozen 0
    have hf1 := K.r.frozen 1
    have s5 := K.lt
    clear hb2 K' hk2 hk3
    have hbel := hid (((K.k.v.bel.setCell (p := ⟨w.heap.size + 1 + 1 + 1, 0, none⟩) (by show w.heap.size ≤ w.heap.size + 1 + 1 + 1; omega) (.int .i64 0)).setCell (p := ⟨w.heap.size + 1 + 1 + 1, 1, none⟩) (by show w.heap.size ≤ w.heap.size + 1 + 1 + 1; omega) (.slice none 0 0)).alloc (by simp; omega) (.cells #[.slice A2 p2 c2] 82))
    clear K
    cases hv : winB P n h 60
    · clear hc
      go_wp2
      refine bodyPost_ret (v := .tuple #[.agg #[.int .i64 0, .slice none 0 0], .int .i64 50]) (by simp [results, Try.results81, go_sem, hd0, hd1, hf0, hf1, s5]) rfl ⟨none, 0, rfl, hoursGe_none _ _, hbel.out⟩
    · rw [hv, Bool.true_and] at hc
      go_wp2
      refine bodyPost_ret (v := .tuple #[.agg #[.int .i64 0, .slice none 0 0], .int .i64 50]) (by simp [results, Try.results81, go_sem, hd0, hd1, hf0, hf1, s5]) rfl ⟨none, 0, rfl, hoursGe_none _ _, hbel.out⟩
  · rw [Bool.and_eq_true] at hc
    obtain ⟨hv, hu⟩ := hc
    have hv1 := (winB_true.1 hv).1
    have hu1 := (winB_true.1 hu).1
    obtain ⟨p, rfl⟩ := Int.eq_ofNat_of_zero_le (show 0 ≤ P by omega)
    obtain ⟨q, rfl⟩ := Int.eq_ofNat_of_zero_le (show 0 ≤ Q by omega)
    rw [togOf_yes hv hu]
    have hL := lcmI_nat p q
    have hL1 : Nat.lcm p q ≤ 60 * 60 := Nat.le_trans (Nat.le_of_dvd (Nat.mul_pos (by omega) (by omega)) (Nat.lcm_dvd_mul p q)) (Nat.mul_le_mul (by omega) (by omega))
    generalize Nat.lcm p q = L at *
    have HV := hid hv
    have HU := hid hu
    have HL := hid hL
    clear hv hu hL
    go_enter Try.func81, Try.ntmps81
    go_wp2_with fail
    refine (newOpen_yes _ _ _ _ _ _ _ K.k.v.hrs (by omega) HV.out).mono ?_
    rintro e w1 ⟨g1, rfl, hg1, hblk1, hb1⟩
    replace K := K.next hb1
    have hk2 := K.k.u.c0
    have hk3 := K.k.u.c1
    have s1 := K.k.u.lt
    have s3 : w.heap.size + 3 < w1.heap.size := K.lt
    have K' := hid (K.next (box_bel w1 (.cells #[.slice (some ⟨g1, 0, none⟩) p p] 82)))
    have HB1 := hid ((BoolsAt.of_blk hblk1).alloc (.cells #[.slice (some ⟨g1, 0, none⟩) p p] 82))
    clear hb1 hblk1
    go_wp2_with fail
    refine (newOpen_yes _ _ _ _ _ _ _ K'.out.k.u.hrs (by omega) HU.out).mono ?_
    rintro e w2 ⟨g2, rfl, hg2, hblk2, hb2⟩
    replace K := K'.out.next hb2
    have hsz := hb2.size
    simp at hsz
    have s4 : w1.heap.size < w2.heap.size := by omega
    have hq : w2.cell? ⟨w1.heap.size, 0, none⟩ = some (.slice (some ⟨g1, 0, none⟩) p p) := by
      rw [hb2.cell (p := ⟨w1.heap.size, 0, none⟩) (by simp)]
      simp
    have HB1' := hid (HB1.out.below hb2)
    have HB2 := hid (BoolsAt.of_blk hblk2)
    have hf2 := K.f
    clear hb2 hblk2 hk2 hk3 K' HB1
    go_wp2_with fail
    refine (common_any p q _ (by omega) (by omega) (by omega) (by have := Int.mul_le_mul (show (p : Int) ≤ 60 by omega) (show (q : Int) ≤ 60 by omega) (by omega) (by omega); omega) (by omega)).mono ?_
    rintro e w3 ⟨rfl, m3, rfl⟩
    rw [HL.out]
    have K3 := (K.next (box_bel w2 (.cells #[.slice (some ⟨g2, 0, none⟩) q q] 82))).next (bdn (Below.refl _ _) m3)
    have hi0 := K3.f
    have hi1 : ((w2.alloc (.cells #[.slice (some ⟨g2, 0, none⟩) q q] 82)).drewN m3).cell? ⟨w1.heap.size, 0, none⟩ = some (.slice (some ⟨g1, 0, none⟩) p p) := (World.cell?_alloc_lt w2 _ ⟨w1.heap.size, 0, none⟩ s4).trans hq
    have hi2 : ((w2.alloc (.cells #[.slice (some ⟨g2, 0, none⟩) q q] 82)).drewN m3).cell? ⟨w2.heap.size, 0, none⟩ = some (.slice (some ⟨g2, 0, none⟩) q q) := World.cell?_alloc_new w2 #[.slice (some ⟨g2, 0, none⟩) q q] 82 0
    have hj1 := (HB1'.out.alloc (.cells #[.slice (some ⟨g2, 0, none⟩) q q] 82)).drewN m3
    have hj2 := (HB2.out.alloc (.cells #[.slice (some ⟨g2, 0, none⟩) q q] 82)).drewN m3
    have t1 : w1.heap.size < ((w2.alloc (.cells #[.slice (some ⟨g2, 0, none⟩) q q] 82)).drewN m3).heap.size := by simp; omega
    have t2 : w2.heap.size < ((w2.alloc (.cells #[.slice (some ⟨g2, 0, none⟩) q q] 82)).drewN m3).heap.size := by simp
    clear hq hf2
    generalize (w2.alloc (.cells #[.slice (some ⟨g2, 0, none⟩) q q] 82)).drewN m3 = W3 at *
    go_wp2_with fail
    have s5 : w.heap.size + 2 < W3.heap.size := by have := K3.lt; omega
    refine (made99_any L (fun j => or (opn n h (j % p)) (opn m k (j % q))) _ _ _ _ (by omega) (fun W => (W.cell? ⟨w.heap.size + 2, 0, none⟩ = some (.func (.func 84) #[] #[]) ∧ W.cell? ⟨w1.heap.size, 0, none⟩ = some (.slice (some ⟨g1, 0, none⟩) p p) ∧ W.cell? ⟨w2.heap.size, 0, none⟩ = some (.slice (some ⟨g2, 0, none⟩) q q)) ∧ BoolsAt W g1 0 p (opn n h) ∧ BoolsAt W g2 0 q (opn m k)) ⟨⟨hi0, hi1, hi2⟩, hj1, hj2⟩
      (fun W W' hi hb => ⟨⟨(hb.cell (p := ⟨w.heap.size + 2, 0, none⟩) s5).trans hi.1.1, (hb.cell (p := ⟨w1.heap.size, 0, none⟩) t1).trans hi.1.2.1, (hb.cell (p := ⟨w2.heap.size, 0, none⟩) t2).trans hi.1.2.2⟩, hi.2.1.belowB hb hj1.1, hi.2.2.belowB hb hj2.1⟩)
      (fun W x hx hi => either99_any _ _ _ _ _ _ _ _ _ _ _ _ _ (by omega) (by omega) (by omega) (by omega) hi.1.1 hi.1.2.1 hi.1.2.2 hi.2.1 hi.2.2)).mono ?_
    rintro e w4 ⟨g3, rfl, hg3, hblk3, hb3⟩
    have K4 := K3.next hb3
    have HB3 := hid (BoolsAt.of_blk hblk3)
    clear hblk3 hb3 hi0 hi1 hi2 hj1 hj2 K3 K
    go_wp2_with (go_at_call 92; refine (window_any _ _ _ _ _ HB3.out (by omega)).mono ?_; rintro e w5 ⟨A4, c4, rfl, hh4, hb4⟩; have K5 := K4.next hb4; have hd0 := blk_c0 K5.r; have hd1 := blk_c1 K5.r; have hf0 := K5.r.frozen 0; have hf1 := K5.r.frozen 1)
    refine bodyPost_ret (v := .tuple #[.agg #[.int .i64 (L : Int), .slice A4 (hsL (fun j => or (opn n h (j % p)) (opn m k (j % q))) L).length c4], .int .i64 0]) (by simp [results, Try.results81, go_sem, hd0, hd1, hf0, hf1]) rfl ⟨A4, c4, rfl, ?_, ?_⟩
    · have := K4.lt
      exact ((hh4.set_ (a := ⟨w.heap.size + 3, 0, none⟩) this _).set_ (a := ⟨w.heap.size + 3, 1, none⟩) this _).mono (by omega)
    · exact (K5.k.v.bel.setCell (p := ⟨w.heap.size + 3, 0, none⟩) (by simp) _).setCell (p := ⟨w.heap.size + 3, 1, none⟩) (by simp) _

set_option maxHeartbeats 1000000 in
theorem wEither_any (P Q : Int) (A B : Option Addr) (n c m d : Nat) (h k : Nat → Int) (w : World) (hh : HoursAt w A n h) (hk : HoursAt w B m k) :
    Calls Try.prog 40 #[.agg #[.int .i64 P, .slice A n c], .agg #[.int .i64 Q, .slice B m d]] w (WinV w (togOf or P n h Q m k)) := by
  have K := (KW2.new (P := P) (Q := Q) (c := c) (d := d) hh hk).next (box_bel _ (.cells #[.int .i64 0, .slice none 0 0] 40))
  have R0 : Hid (Blk (((w.alloc (.cells #[.int .i64 P, .slice A n c] 40)).alloc (.cells #[.int .i64 Q, .slice B m d] 40)).alloc (.cells #[.int .i64 0, .slice none 0 0] 40)) (w.heap.size + 2) 40 #[.int .i64 0, .slice none 0 0]) := hid (by
    have := Blk.new ((w.alloc (.cells #[.int .i64 P, .slice A n c] 40)).alloc (.cells #[.int .i64 Q, .slice B m d] 40)) 40 #[.int .i64 0, .slice none 0 0]
    simpa using this)
  have HT := hid (either_tog P Q A B n c m d h k _ K.v.hrs K.u.hrs)
  generalize togOf or P n h Q m k = v at *
  go_enter Try.func40, Try.ntmps40
  go_wp2_with (go_at_call 81; refine (HT.out).mono ?_; rintro e w5 ⟨A4, c4, rfl, hh4, hb4⟩; have K5 := K.next hb4; have R5 := R0.out.below' hb4; have hd0 := blk_c0 R5; have hd1 := blk_c1 R5; have hf0 := R5.frozen 0; have hf1 := R5.frozen 1)
  have s2 : w.heap.size + 2 < w5.heap.size := R5.lt
  refine bodyPost_ret (v := .tuple #[.agg #[.int .i64 v.per, .slice A4 v.len c4], .int .i64 v.err]) (by simp [results, Try.results40, go_sem, hd0, hd1, hf0, hf1]) rfl ⟨A4, c4, rfl, ?_, ?_⟩
  · exact ((hh4.set_ (a := ⟨w.heap.size + 2, 0, none⟩) (by simp) _).set_ (a := ⟨w.heap.size + 2, 1, none⟩) (by simp) _).mono (B' := w.heap.size) (by simp; omega)
  · exact (K5.v.bel.setCell (p := ⟨w.heap.size + 2, 0, none⟩) (by simp) _).setCell (p := ⟨w.heap.size + 2, 1, none⟩) (by simp) _

end Go.Proofs.Ytfabpkcgdblnbaa
