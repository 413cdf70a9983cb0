/-
  Same, of the program and of the reference; the law WindowSames. Conditions: the hours lie in memory.
-/
import Derived.Test.YtfabpkcgdblnbaaV6
import Derived.Deep.RegionWith
namespace Go.Proofs.Ytfabpkcgdblnbaa
set_option linter.unusedVariables false
set_option linter.unusedSimpArgs false
open Go.RowKit

/-- newOpen, whatever the window -/
def OpenAny (w : World) (P : Int) (n : Nat) (h : Nat → Int) (most : Int) (e : Ending) (w' : World) : Prop :=
  ∃ A p c, e = .returned (.tuple #[.slice A p c, .bool (winB P n h most)]) ∧ Below w.heap.size w w'
theorem newOpen_any (P : Int) (A : Option Addr) (n c : Nat) (h : Nat → Int) (most : Int) (w : World) (hh : HoursAt w A n h) (hm : most ≤ 1000000) :
    Calls Try.prog 72 #[.agg #[.int .i64 P, .slice A n c], .int .i64 most] w (OpenAny w P n h most) := by
  cases hw : winB P n h most
  · exact (newOpen_no P A n c h most w hh hm hw).mono fun e w' ⟨he, hb⟩ => ⟨none, 0, 0, by rw [hw]; exact he, hb⟩
  · have hv := (winB_true.1 hw).1
    obtain ⟨p, rfl⟩ := Int.eq_ofNat_of_zero_le (show 0 ≤ P by omega)
    exact (newOpen_yes p A n c h most w hh hm hw).mono fun e w' ⟨g, he, _, _, hb⟩ => ⟨some ⟨g, 0, none⟩, p, p, by rw [hw]; exact he, hb⟩

theorem mem_hsL {f : Nat → Bool} {p j : Nat} : j ∈ hsL f p ↔ j < p ∧ f j = true := by simp [hsL]
theorem hsL_inj {f g : Nat → Bool} {p : Nat} : hsL f p = hsL g p ↔ ∀ j, j < p → f j = g j := by
  constructor
  · intro h j hj
    rw [Bool.eq_iff_iff]
    have h1 := mem_hsL (f := f) (p := p) (j := j)
    have h2 := mem_hsL (f := g) (p := p) (j := j)
    rw [h] at h1
    rw [h1] at h2
    constructor
    · intro hf; exact (h2.1 ⟨hj, hf⟩).2
    · intro hg; exact (h2.2 ⟨hj, hg⟩).2
  · intro h
    unfold hsL
    exact List.filter_congr fun j hj => h j (by simpa using hj)
theorem eqWin_tab (a b : Nat) (f g : Nat → Bool) : eqWin a (hsL f a).length (hsF f a) b (hsL g b).length (hsF g b) = eqB a f b g := by
  rw [Bool.eq_iff_iff, eqWin_true]
  unfold eqB
  rw [Bool.and_eq_true, decide_eq_true_iff, Bool.not_eq_true', anyB_false]
  simp only [bne_eq_false_iff_eq]
  constructor
  · rintro ⟨⟨h1, h2⟩, h3⟩
    have hab : a = b := by omega
    subst hab
    refine ⟨rfl, hsL_inj.1 (List.ext_getElem h2 fun i h4 h5 => ?_)⟩
    have := h3 i h4
    unfold hsF at this
    simp [h4, h5] at this
    exact Int.ofNat_inj.1 this
  · rintro ⟨rfl, h⟩
    have := hsL_inj.2 h
    refine ⟨⟨rfl, by rw [this]⟩, fun i _ => by unfold hsF; rw [this]⟩

def sameOf (P : Int) (n : Nat) (h : Nat → Int) (Q : Int) (m : Nat) (k : Nat → Int) : Bool × Int :=
  if winB P n h 3600 && winB Q m k 3600 then (eqB (plainP P.toNat (opn n h)) (opn n h) (plainP Q.toNat (opn m k)) (opn m k), 0) else (false, 50)

set_option maxHeartbeats 1000000 in
theorem wSame_any (P Q : Int) (A B : Option Addr) (n c m d : Nat) (h k : Nat → Int) (w : World) (hh : HoursAt w A n h) (hk : HoursAt w B m k) :
    Calls Try.prog 33 #[.agg #[.int .i64 P, .slice A n c], .agg #[.int .i64 Q, .slice B m d]] w fun e w' => e = .returned (.tuple #[.bool (sameOf P n h Q m k).1, .int .i64 (sameOf P n h Q m k).2]) ∧ Below w.heap.size w w' := by
  have HH := hid ((hh.alloc (.cells #[.int .i64 P, .slice A n c] 40)).alloc (.cells #[.int .i64 Q, .slice B m d] 40))
  have HK := hid ((hk.alloc (.cells #[.int .i64 P, .slice A n c] 40)).alloc (.cells #[.int .i64 Q, .slice B m d] 40))
  have L0 : Hid (Below w.heap.size w ((w.alloc (.cells #[.int .i64 P, .slice A n c] 40)).alloc (.cells #[.int .i64 Q, .slice B m d] 40))) := hid (((Below.refl _ _).alloc (Nat.le_refl _) _).alloc (by simp) _)
  have B3 : Hid (Blk ((w.alloc (.cells #[.int .i64 P, .slice A n c] 40)).alloc (.cells #[.int .i64 Q, .slice B m d] 40)) (w.heap.size + 1) 40 #[.int .i64 Q, .slice B m d]) := hid (by
    have := Blk.new (w.alloc (.cells #[.int .i64 P, .slice A n c] 40)) 40 #[.int .i64 Q, .slice B m d]
    simpa using this)
  cases hc : (winB P n h 3600 && winB Q m k 3600)
  · have e1 : sameOf P n h Q m k = (false, 50) := by unfold sameOf; rw [hc]; rfl
    rw [e1]
    clear e1
    go_enter Try.func33, Try.ntmps33
    go_wp2_with fail
    refine (newOpen_any _ _ _ _ _ _ _ HH.out (by omega)).mono ?_
    rintro e w1 ⟨A1, p1, c1, rfl, hb1⟩
    have hk0 := blk_c0 (B3.out.below' hb1)
    have hk1 := blk_c1 (B3.out.below' hb1)
    have HK1 := hid (HK.out.below hb1)
    have L1 := hid (btr L0.out hb1 (by simp; omega))
    have hs1 := hb1.size
    simp at hs1
    clear hb1
    go_wp2_with fail
    refine (newOpen_any _ _ _ _ _ _ _ HK1.out (by omega)).mono ?_
    rintro e w2 ⟨A2, p2, c2, rfl, hb2⟩
    have L2 := hid (btr L1.out hb2 (by omega))
    cases hv : winB P n h 3600
    · clear hc hk0 hk1
      go_wp2
      go_ret2
      exact ⟨rfl, L2.out⟩
    · rw [hv, Bool.true_and] at hc
      clear hk0 hk1
      go_wp2
      go_ret2
      exact ⟨rfl, L2.out⟩
  · rw [Bool.and_eq_true] at hc
    obtain ⟨hv, hu⟩ := hc
    have hv1 := (winB_true.1 hv).1
    have hu1 := (winB_true.1 hu).1
    obtain ⟨p, rfl⟩ := Int.eq_ofNat_of_zero_le (show 0 ≤ P by omega)
    obtain ⟨q, rfl⟩ := Int.eq_ofNat_of_zero_le (show 0 ≤ Q by omega)
    have e1 : sameOf p n h q m k = (eqB (plainP p (opn n h)) (opn n h) (plainP q (opn m k)) (opn m k), 0) := by unfold sameOf; rw [hv, hu]; rfl
    rw [e1]
    have HV := hid hv
    have HU := hid hu
    have hpl := plainP_le p (opn n h)
    have hql := plainP_le q (opn m k)
    clear e1 hv hu
    go_enter Try.func33, Try.ntmps33
    go_wp2_with fail
    refine (newOpen_yes _ _ _ _ _ _ _ HH.out (by omega) HV.out).mono ?_
    rintro e w1 ⟨g1, rfl, hg1, hblk1, hb1⟩
    have hk0 := blk_c0 (B3.out.below' hb1)
    have hk1 := blk_c1 (B3.out.below' hb1)
    have HK1 := hid (HK.out.below hb1)
    have L1 := hid (btr L0.out hb1 (by simp; omega))
    have hs1 := hb1.size
    simp at hs1
    have HB1 := hid (BoolsAt.of_blk hblk1)
    clear hb1 hblk1
    go_wp2_with fail
    refine (newOpen_yes _ _ _ _ _ _ _ HK1.out (by omega) HU.out).mono ?_
    rintro e w2 ⟨g2, rfl, hg2, hblk2, hb2⟩
    have L2 := hid (btr L1.out hb2 (by omega))
    have HB1' := hid (HB1.out.below hb2)
    have HB2 := hid (BoolsAt.of_blk hblk2)
    clear hb2 hblk2 hk0 hk1
    go_wp2_with fail
    refine (plain_any _ _ _ _ HB1'.out (by omega) (by omega)).mono ?_
    rintro e w3 ⟨rfl, m3, rfl⟩
    go_wp2_with fail
    refine (plain_any _ _ _ _ (HB2.out.drewN m3) (by omega) (by omega)).mono ?_
    rintro e w4 ⟨rfl, m4, rfl⟩
    go_wp2_with fail
    have HE1 := hid ((HB1'.out.drewN (m3 + m4)).upto_ _ hpl)
    have HE2 := hid ((HB2.out.drewN (m3 + m4)).upto_ _ hql)
    have L4 := hid (bdn L2.out (m3 + m4))
    generalize w2.drewN (m3 + m4) = w4 at *
    refine (eq_any _ _ _ _ _ _ _ _ _ _ _ HE1.out HE2.out (by omega) (by omega)).mono ?_
    rintro e w5 ⟨rfl, m5, rfl⟩
    go_wp2
    go_ret2
    exact ⟨rfl, bdn L4.out _⟩

/-- what is kept of two windows that came in -/
structure KW2 (w0 w : World) (g1 g2 : Nat) (P Q : Int) (A B : Option Addr) (n c m d : Nat) (h k : Nat → Int) : Prop where
  v : KW w0 w g1 P A n c h
  u : KW w0 w g2 Q B m d k
theorem KW2.next {w0 w w' : World} {g1 g2 : Nat} {P Q : Int} {A B : Option Addr} {n c m d : Nat} {h k : Nat → Int} (K : KW2 w0 w g1 g2 P Q A B n c m d h k) (hb : Below w.heap.size w w') : KW2 w0 w' g1 g2 P Q A B n c m d h k := ⟨K.v.next hb, K.u.next hb⟩
theorem KW2.drew {w0 w : World} {g1 g2 : Nat} {P Q : Int} {A B : Option Addr} {n c m d : Nat} {h k : Nat → Int} (K : KW2 w0 w g1 g2 P Q A B n c m d h k) : KW2 w0 w.drew g1 g2 P Q A B n c m d h k := K.next (Below.refl _ _).drew
theorem KW2.new {w : World} {P Q : Int} {A B : Option Addr} {n c m d : Nat} {h k : Nat → Int} (hh : HoursAt w A n h) (hk : HoursAt w B m k) :
    KW2 w ((w.alloc (.cells #[.int .i64 P, .slice A n c] 40)).alloc (.cells #[.int .i64 Q, .slice B m d] 40)) w.heap.size (w.heap.size + 1) P Q A B n c m d h k := by
  have B3 : Blk ((w.alloc (.cells #[.int .i64 P, .slice A n c] 40)).alloc (.cells #[.int .i64 Q, .slice B m d] 40)) (w.heap.size + 1) 40 #[.int .i64 Q, .slice B m d] := by
    have := Blk.new (w.alloc (.cells #[.int .i64 P, .slice A n c] 40)) 40 #[.int .i64 Q, .slice B m d]
    simpa using this
  exact ⟨(KW.new hh).alloc _, ⟨((Below.refl _ _).alloc (Nat.le_refl _) _).alloc (by simp) _, (hk.alloc _).alloc _, by simp, blk_c0 B3, blk_c1 B3⟩⟩

set_option maxHeartbeats 2000000 in
theorem rSame_any (P Q : Int) (A B : Option Addr) (n c m d : Nat) (h k : Nat → Int) (w : World) (hh : HoursAt w A n h) (hk : HoursAt w B m k) :
    Calls Try.prog 34 #[.agg #[.int .i64 P, .slice A n c], .agg #[.int .i64 Q, .slice B m d]] w fun e w' => e = .returned (.tuple #[.bool (sameOf P n h Q m k).1, .int .i64 (sameOf P n h Q m k).2]) ∧ Below w.heap.size w w' := by
  have K := KW2.new (P := P) (Q := Q) (c := c) (d := d) hh hk
  have hk0 := K.v.c0
  have hk1 := K.v.c1
  have hk2 := K.u.c0
  have hk3 := K.u.c1
  clear hh hk
  cases hv : winB P n h 3600
  · have e1 : sameOf P n h Q m k = (false, 50) := by unfold sameOf; rw [hv]; rfl
    rw [e1]
    clear e1
    go_enter Try.func34, Try.ntmps34
    go_wp2_with (go_at_call 35; refine (rWide_any _ _ _ _ _ _ K.v.hrs).mono ?_; rintro e w1 ⟨rfl, hb1⟩)
    go_ret2
    exact ⟨rfl, (K.next hb1).v.bel⟩
  · have HV := hid hv
    cases hu : winB Q m k 3600
    · have e1 : sameOf P n h Q m k = (false, 50) := by unfold sameOf; rw [hv, hu]; rfl
      rw [e1]
      clear e1
      go_enter Try.func34, Try.ntmps34
      go_wp2_with fail
      refine (rWide_any _ _ _ _ _ _ K.v.hrs).mono ?_
      rintro e w1 ⟨rfl, hb1⟩
      have K1 := K.next hb1
      clear hk0 hk1 hk2 hk3
      have hk2 := K1.u.c0
      have hk3 := K1.u.c1
      go_wp2_with fail
      refine (rWide_any _ _ _ _ _ _ K1.u.hrs).mono ?_
      rintro e w2 ⟨rfl, hb2⟩
      go_wp2
      go_ret2
      exact ⟨rfl, (K1.next hb2).v.bel⟩
    · have HU := hid hu
      have hv1 := (winB_true.1 hv).1
      have hu1 := (winB_true.1 hu).1
      obtain ⟨p, rfl⟩ := Int.eq_ofNat_of_zero_le (show 0 ≤ P by omega)
      obtain ⟨q, rfl⟩ := Int.eq_ofNat_of_zero_le (show 0 ≤ Q by omega)
      have e1 : sameOf p n h q m k = (eqB (plainP p (opn n h)) (opn n h) (plainP q (opn m k)) (opn m k), 0) := by unfold sameOf; rw [hv, hu]; rfl
      rw [e1]
      clear e1
      go_enter Try.func34, Try.ntmps34
      go_wp2_with fail
      refine (rWide_any _ _ _ _ _ _ K.v.hrs).mono ?_
      rintro e w1 ⟨rfl, hb1⟩
      have K1 := K.next hb1
      clear hk0 hk1 hk2 hk3
      have hk2 := K1.u.c0
      have hk3 := K1.u.c1
      go_wp2_with fail
      refine (rWide_any _ _ _ _ _ _ K1.u.hrs).mono ?_
      rintro e w2 ⟨rfl, hb2⟩
      have K2 := (K1.next hb2).drew
      clear hk2 hk3
      have hk0 := K2.v.c0
      have hk1 := K2.v.c1
      have hk2 := K2.u.c0
      have hk3 := K2.u.c1
      simp only [World.cell?_drew] at hk0 hk1 hk2 hk3
      go_wp2_with fail
      clear hv hu
      go_region_with (first
        | (go_at_call_of 78 (Value.agg #[.int .i64 (p : Int), .slice A n c]); refine (rPlain_any _ _ _ _ _ _ (KW.hrs (KW2.v (by assumption))) HV.out).mono ?_; rintro e w3 ⟨A3, c3, rfl, hh3, hb3⟩; have K3 := KW2.next (by assumption) hb3; have hx0 := K3.v.c0; have hx1 := K3.v.c1; have hx2 := K3.u.c0; have hx3 := K3.u.c1; have hv3 := hh3.at_; (try have hu3 := HoursAt.below hu3 hb3); clear hb3)
        | (go_at_call_of 78 (Value.agg #[.int .i64 (q : Int), .slice B m d]); refine (rPlain_any _ _ _ _ _ _ (KW.hrs (KW2.u (by assumption))) HU.out).mono ?_; rintro e w4 ⟨A4, c4, rfl, hh4, hb4⟩; have K4 := KW2.next (by assumption) hb4; have hy0 := K4.v.c0; have hy1 := K4.v.c1; have hy2 := K4.u.c0; have hy3 := K4.u.c1; have hu3 := hh4.at_; (try have hv3 := HoursAt.below hv3 hb4); clear hb4)
        | (go_at_call 42; refine (equal_any _ _ _ _ _ _ _ _ _ _ _ hv3 hu3).mono ?_; rintro e w5 ⟨rfl, hb5⟩; rw [eqWin_tab]; have K5 := KW2.next (by assumption) hb5))
      all_goals
        go_wp2
        go_ret2
        exact ⟨rfl, K5.v.bel⟩
end Go.Proofs.Ytfabpkcgdblnbaa
