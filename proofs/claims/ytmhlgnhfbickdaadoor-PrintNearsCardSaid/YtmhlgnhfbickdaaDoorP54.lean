/-
  The walk of the law PrintNears. Conditions: the prints lie in memory, and the number is a byte's.
-/
import Derived.Test.YtmhlgnhfbickdaaDoorP26
import Derived.Test.YtmhlgnhfbickdaaDoorP53
namespace Go.Proofs.YtmhlgnhfbickdaaDoor
set_option linter.unusedVariables false
set_option linter.unusedSimpArgs false
open Go.RowKit Go.Shelf

theorem one_at (w : World) (s : ByteArray) (o : Obj) (hs : s.size ≤ 9223372036854775807) :
    StrsAt ((w.alloc o).alloc (.cells #[.string s] 9)) (some ⟨w.heap.size + 1, 0, none⟩) 1 (fun _ => s) := by
  refine ⟨by omega, w.heap.size + 1, 0, fun _ => by simp, fun _ => rfl, fun i hi => ?_⟩
  have h := Blk.new (w.alloc o) 9 #[.string s]
  rw [show (w.alloc o).heap.size = w.heap.size + 1 by simp] at h
  obtain rfl : i = 0 := by omega
  exact ⟨h.cell 0, hs⟩
theorem ask1 {s : ByteArray} {p c : Int} (h : askB 1 (fun _ => s) p c = true) : valB s = true ∧ vcB p c = true := by
  obtain ⟨hv, hc⟩ := askB_true h
  exact ⟨hv 0 (by omega), hc⟩
theorem dsF_comm (ss : Nat → ByteArray) (p c : Int) (i j : Nat) : dsF ss (ss i) p c j = dsF ss (ss j) p c i := by
  unfold dsF
  rw [dst_comm]

set_option maxRecDepth 100000 in
set_option maxHeartbeats 8000000 in
theorem printNears_walk (A : Option Addr) (n cap : Nat) (ss : Nat → ByteArray) (s : ByteArray) (p c a : Int) (w : World) (hss : StrsAt w A n ss) (hs : s.size ≤ 9223372036854775807) (ha : (Lit.int .u8 a).wf = true) :
    Calls Tryd.prog 16 #[.slice A n cap, .string s, .agg #[.int .i64 p, .int .i64 c], .int .u8 a] w fun e w' => e = .returned (.bool true) ∧ Below w.heap.size w w' := by
  obtain ⟨ha0, ha1⟩ := wf_u8 ha
  clear ha
  have hb0 := hid (box_bel w (.cells #[.int .i64 p, .int .i64 c] 24))
  have hb1 := hid (((box_bel w (.cells #[.int .i64 p, .int .i64 c] 24))).trans ((box_bel _ (.cells #[.string s] 9)).mono (by simp)))
  have HB0 := hid (Blk.new w 24 #[.int .i64 p, .int .i64 c])
  have HB1 := hid ((Blk.new w 24 #[.int .i64 p, .int .i64 c]).alloc (.cells #[.string s] 9))
  have HSS := hid (one_at w s (.cells #[.int .i64 p, .int .i64 c] 24) hs)
  have HL := hid hss
  have HL0 := hid (hss.below hb0.out)
  have HS := hid hs
  clear hss hs
  have e0 := HB0.out.cell 0
  have e1 := HB0.out.cell 1
  simp only [List.getElem?_toArray, List.getElem?_cons_zero, List.getElem?_cons_succ] at e0 e1
  by_cases hm : manB n ss = true
  · have HM := hid hm
    clear hm
    go_enter Tryd.func16, Tryd.ntmps16
    go_wp2_with fail
    refine (many_any A n cap ss _ HL0.out).mono ?_
    rintro e w' ⟨rfl, rfl⟩
    rw [HM.out]
    go_wp2_with (go_at_call 20; refine (awake_any _).mono ?_; rintro e w' ⟨rfl, hb⟩)
    go_ret
    exact ⟨rfl, btr hb0.out hb (by simp)⟩
  · have HM : Hid (manB n ss = false) := hid (by cases h : manB n ss; (· rfl); (· exact absurd h hm))
    clear hm
    cases hask : askB 1 (fun _ => s) p c
    · have HA := hid hask
      clear hask
      go_enter Tryd.func16, Tryd.ntmps16
      go_wp2_with fail
      refine (many_any A n cap ss _ HL0.out).mono ?_
      rintro e w' ⟨rfl, rfl⟩
      rw [HM.out]
      go_wp2_with fail
      refine (lawAsked_any _ _ _ (fun _ => s) p c _ HSS.out).mono ?_
      rintro e w1 ⟨rfl, hb⟩
      rw [HA.out]
      have K1 := hid (btr hb1.out hb hb1.out.size)
      clear hb
      go_wp2_with (go_at_call 20; refine (awake_any _).mono ?_; rintro e w' ⟨rfl, hb⟩)
      go_ret
      exact ⟨rfl, btr K1.out hb K1.out.size⟩
    · have HA := hid hask
      obtain ⟨v1, v3⟩ := ask1 hask
      clear hask
      cases har : arB n ss
      · have HAR := hid har
        clear har
        go_enter Tryd.func16, Tryd.ntmps16
        go_wp2_with fail
        refine (many_any A n cap ss _ HL0.out).mono ?_
        rintro e w' ⟨rfl, rfl⟩
        rw [HM.out]
        go_wp2_with fail
        refine (lawAsked_any _ _ _ (fun _ => s) p c _ HSS.out).mono ?_
        rintro e w1 ⟨rfl, hb⟩
        rw [HA.out]
        have K1 := hid (btr hb1.out hb hb1.out.size)
        clear hb
        go_wp2_with fail
        refine (arePrints_any A n cap ss _ (HL.out.below K1.out)).mono ?_
        rintro e w' ⟨rfl, rfl⟩
        rw [HAR.out]
        go_wp2_with (go_at_call 20; refine (awake_any _).mono ?_; rintro e w' ⟨rfl, hb⟩)
        go_ret
        exact ⟨rfl, btr K1.out hb K1.out.size⟩
      · have HAR := hid har
        obtain ⟨hn18, hvs⟩ := arB_true har
        have hr := vcB_true.1 v3
        obtain ⟨p, rfl⟩ : ∃ p' : Nat, p = (p' : Int) := ⟨p.toNat, by omega⟩
        obtain ⟨c, rfl⟩ : ∃ c' : Nat, c = (c' : Int) := ⟨c.toNat, by omega⟩
        have hok : (arB n ss && valB s) = true := by rw [har, v1]; rfl
        have hz1 : disC n ss s (p : Int) (c : Int) true = 0 := disC_ok hok v3
        have hz2 : midC n ss (p : Int) (c : Int) = 0 := by rw [midC_ar har, v3]; rfl
        have hn0 : 0 < n := by omega
        have HN1 := hid fun wx h => nearest_any A n cap ss s (p : Int) (c : Int) wx h HS.out
        have HM1 := hid fun wx h => middle_any A n cap ss (p : Int) (c : Int) wx h
        unfold NearR nearI nearM at HN1 HM1
        rw [hz1, if_pos rfl, if_pos rfl, bI_dsL, bV_dsL hn0] at HN1
        rw [hz2, if_pos rfl, if_pos rfl, bI_dsL, bV_dsL hn0] at HM1
        obtain ⟨f1, f2, f3⟩ := bestI_spec (dsF ss s (p : Int) (c : Int)) n hn0
        obtain ⟨g1, g2, g3⟩ := bestI_spec (mdF n ss (p : Int) (c : Int)) n hn0
        obtain ⟨r, hr1⟩ := nearL_best hn0 (dsF ss s (p : Int) (c : Int))
        have hr2 := nearL_less hn0 (dsF ss s (p : Int) (c : Int))
        have hrg := dsF_range har v1 v3 f1
        have HW1 := hid fun most wx h => withinF_any A n cap ss s (p : Int) (c : Int) most wx h HS.out
        unfold DisR at HW1
        obtain ⟨bi, hbi⟩ : ∃ bi, bestI (dsF ss s (p : Int) (c : Int)) n = bi := ⟨_, rfl⟩
        obtain ⟨at_, hat⟩ : ∃ at_, bestI (mdF n ss (p : Int) (c : Int)) n = at_ := ⟨_, rfl⟩
        rw [hbi] at HN1 f1 f2 hr1 hr2 hrg
        rw [hat] at HM1 g1 g2
        obtain ⟨k, hk⟩ : ∃ k : Nat, a % (n : Int) = (k : Int) := ⟨(a % (n : Int)).toNat, by have := Int.emod_nonneg a (show (n : Int) ≠ 0 by omega); omega⟩
        have hkn : k < n := by have := Int.emod_lt_of_pos a (show (0 : Int) < (n : Int) by omega); omega
        have f2k := f2 k hkn
        have g2k := g2 k hkn
        obtain ⟨m, hm⟩ : ∃ m, dsF ss s (p : Int) (c : Int) bi = m := ⟨_, rfl⟩
        obtain ⟨d, hd⟩ : ∃ d, dsF ss s (p : Int) (c : Int) k = d := ⟨_, rfl⟩
        obtain ⟨sm, hsm⟩ : ∃ sm, mdF n ss (p : Int) (c : Int) at_ = sm := ⟨_, rfl⟩
        obtain ⟨sk, hsk⟩ : ∃ sk, mdF n ss (p : Int) (c : Int) k = sk := ⟨_, rfl⟩
        have HD1 := hid fun wx => dist_ok (ss k) s p c wx (hvs k hkn) v1 v3
        have hdd : ((dst p c (ss k).data.toList s.data.toList : Nat) : Int) = d := by rw [← hd]; unfold dsF; rw [Int.toNat_natCast, Int.toNat_natCast]
        rw [hdd] at HD1
        rw [hm] at HN1 f2k hr1 hr2 hrg
        rw [hd] at f2k
        rw [hsm] at HM1 g2k
        rw [hsk] at g2k
        have HR1 := hid (And.intro hr1 hr2)
        have HG := hid (And.intro hsm hsk)
        have HCK := hid (And.intro hok v3)
        have HVS := hid hvs
        have HV := hid v1
        have hw1 : (if disC n ss s (p : Int) (c : Int) (btw 0 m 1000) = 0 then nearL n (dsF ss s (p : Int) (c : Int)) m else []) = (bi : Int) :: r := by
          rw [btw_true (by omega) (by omega), hz1, if_pos rfl, hr1]
        have HW2 := hid fun wx h => HW1.out m wx h
        rw [hw1, btw_true (by omega) (by omega), hz1] at HW2
        clear hok hz1 hz2 f2 f3 g2 g3 hr1 hr2 hvs v1 har hbi hat hm hd hsm hsk hdd hw1
        obtain ⟨hn9, b, off, hlt, hA, hc⟩ := HL.out
        obtain rfl := hA (by omega)
        have HCC := hid (And.intro (hlt (by omega)) hc)
        clear hlt hc hA
        have q1 : decide ((bi : Int) < 0) = false := by simp
        have q2 : decide ((at_ : Int) < 0) = false := by simp
        have q3 : (bi : Int) < (n : Int) := by omega
        have q4 : (at_ : Int) < (n : Int) := by omega
        have q5 : decide ((n : Int) ≤ (bi : Int)) = false := by simp; omega
        have q6 : decide ((n : Int) ≤ (at_ : Int)) = false := by simp; omega
        have q7 : decide (n ≤ bi) = false := by simp; omega
        have q8 : decide (n ≤ at_) = false := by simp; omega
        go_enter Tryd.func16, Tryd.ntmps16
        go_wp2_with fail
        refine (many_any _ n cap ss _ HL0.out).mono ?_
        rintro e w' ⟨rfl, rfl⟩
        rw [HM.out]
        go_wp2_with fail
        refine (lawAsked_any _ _ _ (fun _ => s) (p : Int) (c : Int) _ HSS.out).mono ?_
        rintro e w1 ⟨rfl, hb⟩
        rw [HA.out]
        have K1 := hid (btr hb1.out hb hb1.out.size)
        have B1 := hid (HB1.out.below' hb)
        clear hb e0 e1
        have e0 := B1.out.cell 0
        have e1 := B1.out.cell 1
        simp only [List.getElem?_toArray, List.getElem?_cons_zero, List.getElem?_cons_succ] at e0 e1
        go_wp2_with fail
        refine (arePrints_any _ n cap ss _ (HL.out.below K1.out)).mono ?_
        rintro e w' ⟨rfl, rfl⟩
        rw [HAR.out]
        go_wp2_with fail
        refine (HN1.out _ (HL.out.below K1.out)).mono ?_
        rintro e w2 ⟨rfl, hb⟩
        have K2 := hid (btr K1.out hb K1.out.size)
        have B2 := hid (B1.out.below' hb)
        clear hb e0 e1
        have e0 := B2.out.cell 0
        have e1 := B2.out.cell 1
        simp only [List.getElem?_toArray, List.getElem?_cons_zero, List.getElem?_cons_succ] at e0 e1
        go_wp2_with fail
        refine (HM1.out _ (HL.out.below K2.out)).mono ?_
        rintro e w3 ⟨rfl, hb⟩
        have K3 := hid (btr K2.out hb K2.out.size)
        have B3 := hid (B2.out.below' hb)
        clear hb e0 e1
        go_wp2_with fail
        rw [hk]
        have l3 := B3.out.lt
        have e0 := B3.out.cell 0
        have e1 := B3.out.cell 1
        simp only [List.getElem?_toArray, List.getElem?_cons_zero, List.getElem?_cons_succ] at e0 e1
        have g0 := Later.cells (B := w3.heap.size) (w := w3) e0 l3
        have g1' := Later.cells (B := w3.heap.size) (w := w3) e1 l3
        have gk := Later.cells (B := w3.heap.size) (w := w3) ((K3.out.cell (p := ⟨b, off + k, none⟩) HCC.out.1).trans (HCC.out.2 k hkn).1) (Nat.lt_of_lt_of_le HCC.out.1 K3.out.size)
        have hkn2 : (k : Int) < (n : Int) := by omega
        have A1 := hid fun x : Later w3.heap.size w3 => Calls.later_of (v := .tuple #[.int .i64 d, .int .i64 0]) (x := x) (Nat.le_refl _) (HD1.out x.up)
        clear e0 e1
        refine wp_region_later w3.heap.size (by kernel_rfl) (by kernel_rfl) ?_
        repeat (go_big_quiet_step ((go_at_call 28; exact A1.out _)))
        refine wpQuiet_nil ?_
        rintro _ ⟨⟨w4, hb4⟩, rfl⟩
        have K4 := hid (btr K3.out hb4 K3.out.size)
        have B4 := hid (B3.out.below' hb4)
        clear hb4 g0 g1' gk A1
        have e0 := B4.out.cell 0
        have e1 := B4.out.cell 1
        simp only [List.getElem?_toArray, List.getElem?_cons_zero, List.getElem?_cons_succ] at e0 e1
        go_wp2_with fail
        refine (HW2.out _ (HL.out.below K4.out)).mono ?_
        rintro e w5 ⟨A5, m5, cap5, rfl, hv, hb⟩
        have K5 := hid (btr K4.out hb K4.out.size)
        have B5 := hid (B4.out.below' hb)
        obtain ⟨A', cap', he, hn9', b5, off5, hlt5, hA5, hc5⟩ := hv
        simp only [Value.slice.injEq] at he
        obtain ⟨rfl, rfl, rfl⟩ := he
        rw [List.length_cons] at *
        obtain rfl := hA5 (by omega)
        have x5 : w5.cell? ⟨b5, off5 + 0, none⟩ = some (.int .i64 (bi : Int)) := hc5 0 (by omega)
        rw [Nat.add_zero] at x5
        have hdm : decide (d < m) = false := by simp; omega
        have hrl : (((r.length : Int) + 1) == 0) = false := by simp; omega
        have hrl0 : (0 : Int) < (r.length : Int) + 1 := by omega
        clear hb e0 e1 hc5 hlt5 hA5 hn9'
        by_cases hm0 : 0 < m
        · have hw3 : (if disC n ss s (p : Int) (c : Int) (btw 0 (m - 1) 1000) = 0 then nearL n (dsF ss s (p : Int) (c : Int)) (m - 1) else []) = [] := by
            rw [HR1.out.2]
            split <;> rfl
          have HW3 := hid fun wx h => HW1.out (m - 1) wx h
          rw [hw3, btw_true (by omega) (by omega), disC_ok HCK.out.1 HCK.out.2] at HW3
          have e0 := B5.out.cell 0
          have e1 := B5.out.cell 1
          simp only [List.getElem?_toArray, List.getElem?_cons_zero, List.getElem?_cons_succ] at e0 e1
          clear hw3
          go_wp2_with fail
          refine (HW3.out _ (HL.out.below K5.out)).mono ?_
          rintro e w6 ⟨A6, m6, cap6, rfl, hv, hb⟩
          have K6 := hid (btr K5.out hb K5.out.size)
          have B6 := hid (B5.out.below' hb)
          have hm6 := ints_shape hv
          rw [List.length_nil] at hm6
          subst hm6
          clear hb e0 e1 hv x5 hrl hrl0
          go_wp2
          go_loopw [22, 23, 152] (fun x y z wr => ∃ j : Nat, j ≤ n ∧ x = .int .i64 (sumN (dsF ss (ss at_) (p : Int) (c : Int)) j) ∧ y = .int .i64 (sumN (dsF ss (ss k) (p : Int) (c : Int)) j) ∧ z = .int .i64 (j : Int) ∧ Hid (Below w.heap.size w wr) ∧ Hid (Blk wr w.heap.size 24 #[.int .i64 (p : Int), .int .i64 (c : Int)])) (fun _ _ z _ => n - (intOf z).toNat)
          case atStart => exact ⟨0, by omega, rfl, rfl, rfl, K6, B6⟩
          case round =>
            obtain ⟨j, hj, rfl, rfl, rfl, HW, HBk⟩ := hrel
            obtain ⟨wk, rfl⟩ : ∃ wk : World, wk = wr := ⟨_, rfl⟩
            by_cases hjn : j < n
            · have hjn2 : (j : Int) < (n : Int) := by omega
              have HX1 := hid fun wx => dist_ok (ss at_) (ss j) p c wx (HVS.out at_ g1) (HVS.out j hjn) HCK.out.2
              have HX2 := hid fun wx => dist_ok (ss k) (ss j) p c wx (HVS.out k hkn) (HVS.out j hjn) HCK.out.2
              have y1 : ((dst p c (ss at_).data.toList (ss j).data.toList : Nat) : Int) = dsF ss (ss at_) (p : Int) (c : Int) j := by rw [dsF_comm]; unfold dsF; rw [Int.toNat_natCast, Int.toNat_natCast]
              have y2 : ((dst p c (ss k).data.toList (ss j).data.toList : Nat) : Int) = dsF ss (ss k) (p : Int) (c : Int) j := by rw [dsF_comm]; unfold dsF; rw [Int.toNat_natCast, Int.toNat_natCast]
              have z1 := dsF_range HAR.out (HVS.out at_ g1) HCK.out.2 hjn
              have z2 := dsF_range HAR.out (HVS.out k hkn) HCK.out.2 hjn
              have z3 := sumN_range (f := dsF ss (ss at_) (p : Int) (c : Int)) (b := 360) j (fun i hi => dsF_range HAR.out (HVS.out at_ g1) HCK.out.2 (by omega))
              have z4 := sumN_range (f := dsF ss (ss k) (p : Int) (c : Int)) (b := 360) j (fun i hi => dsF_range HAR.out (HVS.out k hkn) HCK.out.2 (by omega))
              have u1 : sumN (dsF ss (ss at_) (p : Int) (c : Int)) (j + 1) = sumN (dsF ss (ss at_) (p : Int) (c : Int)) j + dsF ss (ss at_) (p : Int) (c : Int) j := rfl
              have u2 : sumN (dsF ss (ss k) (p : Int) (c : Int)) (j + 1) = sumN (dsF ss (ss k) (p : Int) (c : Int)) j + dsF ss (ss k) (p : Int) (c : Int) j := rfl
              rw [y1] at HX1
              rw [y2] at HX2
              obtain ⟨x1, hx1⟩ : ∃ x1, dsF ss (ss at_) (p : Int) (c : Int) j = x1 := ⟨_, rfl⟩
              obtain ⟨x2, hx2⟩ : ∃ x2, dsF ss (ss k) (p : Int) (c : Int) j = x2 := ⟨_, rfl⟩
              obtain ⟨s1, hs1⟩ : ∃ s1, sumN (dsF ss (ss at_) (p : Int) (c : Int)) j = s1 := ⟨_, rfl⟩
              obtain ⟨s2, hs2⟩ : ∃ s2, sumN (dsF ss (ss k) (p : Int) (c : Int)) j = s2 := ⟨_, rfl⟩
              rw [hx1] at HX1 z1 u1
              rw [hx2] at HX2 z2 u2
              rw [hs1] at z3 u1 ⊢
              rw [hs2] at z4 u2 ⊢
              have HU := hid (And.intro u1 u2)
              have w1' : s1 ≤ 2880 := by omega
              have w2' : s2 ≤ 2880 := by omega
              have w3' := z3.1
              have w4' := z4.1
              have lk := HBk.out.lt
              have e0 := HBk.out.cell 0
              have e1 := HBk.out.cell 1
              simp only [List.getElem?_toArray, List.getElem?_cons_zero, List.getElem?_cons_succ] at e0 e1
              have g0 := Later.cells (B := wk.heap.size) (w := wk) e0 lk
              have g1' := Later.cells (B := wk.heap.size) (w := wk) e1 lk
              have gb := Nat.lt_of_lt_of_le HCC.out.1 HW.out.size
              have ga := Later.cells (B := wk.heap.size) (w := wk) ((HW.out.cell (p := ⟨b, off + at_, none⟩) HCC.out.1).trans (HCC.out.2 at_ g1).1) gb
              have cj := (HW.out.cell (p := ⟨b, off + j, none⟩) HCC.out.1).trans (HCC.out.2 j hjn).1
              have A1 := hid fun x : Later wk.heap.size wk => Calls.later_of (v := .tuple #[.int .i64 x1, .int .i64 0]) (x := x) (Nat.le_refl _) (HX1.out x.up)
              clear y1 y2 hx1 hx2 hs1 hs2 u1 u2 e0 e1 z3 z4
              go_wp2
              refine wp_region_later wk.heap.size (by kernel_rfl) (by kernel_rfl) ?_
              repeat (go_big_quiet_step ((go_at_call 28; exact A1.out _)))
              refine wpQuiet_nil ?_
              rintro wm ⟨⟨_, hbm⟩, rfl⟩
              have HWm := hid (btr HW.out hbm HW.out.size)
              have HBm := hid (HBk.out.below' hbm)
              have lkm := hbm.size
              clear g0 g1' ga A1 HX1 cj
              have e0 := HBm.out.cell 0
              have e1 := HBm.out.cell 1
              simp only [List.getElem?_toArray, List.getElem?_cons_zero, List.getElem?_cons_succ] at e0 e1
              have g0 := Later.cells (B := wk.heap.size) (w := wm) e0 lk
              have g1' := Later.cells (B := wk.heap.size) (w := wm) e1 lk
              have ga := Later.cells (B := wk.heap.size) (w := wm) ((HWm.out.cell (p := ⟨b, off + k, none⟩) HCC.out.1).trans (HCC.out.2 k hkn).1) gb
              have A1 := hid fun x : Later wk.heap.size wm => Calls.later_of (v := .tuple #[.int .i64 x2, .int .i64 0]) (x := x) lkm (HX2.out x.up)
              clear e0 e1 hbm HBk
              go_wp2
              refine wp_region_later wk.heap.size (by kernel_rfl) (by kernel_rfl) ?_
              repeat (go_big_quiet_step ((go_at_call 28; exact A1.out _)))
              refine wpQuiet_nil ?_
              rintro _ ⟨⟨wn, hbn⟩, rfl⟩
              have HWn := hid (HWm.out.trans (hbn.mono HW.out.size))
              have HBn := hid (HBm.out.below hbn lk)
              clear hbn g0 g1' ga A1 HX2 lk gb HWm HBm HW
              go_wp2
              go_roundw
              case rel => exact ⟨j + 1, by omega, by rw [HU.out.1], by rw [HU.out.2], by go_num, HWn, HBn⟩
              case measure => simp [intOf]; omega
            · obtain rfl : j = n := by omega
              have hG1 := HG.out.1
              have hG2 := HG.out.2
              unfold mdF at hG1 hG2
              rw [hG1, hG2]
              clear hG1 hG2
              go_wp2_with (go_at_call 20; refine (awake_any _).mono ?_; rintro e w9 ⟨rfl, hb⟩)
              go_ret
              exact ⟨rfl, btr HW.out hb HW.out.size⟩
        · have hm0' : decide (0 < m) = false := decide_eq_false hm0
          clear hm0
          go_wp2
          go_loopw [22, 23, 152] (fun x y z wr => ∃ j : Nat, j ≤ n ∧ x = .int .i64 (sumN (dsF ss (ss at_) (p : Int) (c : Int)) j) ∧ y = .int .i64 (sumN (dsF ss (ss k) (p : Int) (c : Int)) j) ∧ z = .int .i64 (j : Int) ∧ Hid (Below w.heap.size w wr) ∧ Hid (Blk wr w.heap.size 24 #[.int .i64 (p : Int), .int .i64 (c : Int)])) (fun _ _ z _ => n - (intOf z).toNat)
          case atStart => exact ⟨0, by omega, rfl, rfl, rfl, K5, B5⟩
          case round =>
            obtain ⟨j, hj, rfl, rfl, rfl, HW, HBk⟩ := hrel
            obtain ⟨wk, rfl⟩ : ∃ wk : World, wk = wr := ⟨_, rfl⟩
            by_cases hjn : j < n
            · have hjn2 : (j : Int) < (n : Int) := by omega
              have HX1 := hid fun wx => dist_ok (ss at_) (ss j) p c wx (HVS.out at_ g1) (HVS.out j hjn) HCK.out.2
              have HX2 := hid fun wx => dist_ok (ss k) (ss j) p c wx (HVS.out k hkn) (HVS.out j hjn) HCK.out.2
              have y1 : ((dst p c (ss at_).data.toList (ss j).data.toList : Nat) : Int) = dsF ss (ss at_) (p : Int) (c : Int) j := by rw [dsF_comm]; unfold dsF; rw [Int.toNat_natCast, Int.toNat_natCast]
              have y2 : ((dst p c (ss k).data.toList (ss j).data.toList : Nat) : Int) = dsF ss (ss k) (p : Int) (c : Int) j := by rw [dsF_comm]; unfold dsF; rw [Int.toNat_natCast, Int.toNat_natCast]
              have z1 := dsF_range HAR.out (HVS.out at_ g1) HCK.out.2 hjn
              have z2 := dsF_range HAR.out (HVS.out k hkn) HCK.out.2 hjn
              have z3 := sumN_range (f := dsF ss (ss at_) (p : Int) (c : Int)) (b := 360) j (fun i hi => dsF_range HAR.out (HVS.out at_ g1) HCK.out.2 (by omega))
              have z4 := sumN_range (f := dsF ss (ss k) (p : Int) (c : Int)) (b := 360) j (fun i hi => dsF_range HAR.out (HVS.out k hkn) HCK.out.2 (by omega))
              have u1 : sumN (dsF ss (ss at_) (p : Int) (c : Int)) (j + 1) = sumN (dsF ss (ss at_) (p : Int) (c : Int)) j + dsF ss (ss at_) (p : Int) (c : Int) j := rfl
              have u2 : sumN (dsF ss (ss k) (p : Int) (c : Int)) (j + 1) = sumN (dsF ss (ss k) (p : Int) (c : Int)) j + dsF ss (ss k) (p : Int) (c : Int) j := rfl
              rw [y1] at HX1
              rw [y2] at HX2
              obtain ⟨x1, hx1⟩ : ∃ x1, dsF ss (ss at_) (p : Int) (c : Int) j = x1 := ⟨_, rfl⟩
              obtain ⟨x2, hx2⟩ : ∃ x2, dsF ss (ss k) (p : Int) (c : Int) j = x2 := ⟨_, rfl⟩
              obtain ⟨s1, hs1⟩ : ∃ s1, sumN (dsF ss (ss at_) (p : Int) (c : Int)) j = s1 := ⟨_, rfl⟩
              obtain ⟨s2, hs2⟩ : ∃ s2, sumN (dsF ss (ss k) (p : Int) (c : Int)) j = s2 := ⟨_, rfl⟩
              rw [hx1] at HX1 z1 u1
              rw [hx2] at HX2 z2 u2
              rw [hs1] at z3 u1 ⊢
              rw [hs2] at z4 u2 ⊢
              have HU := hid (And.intro u1 u2)
              have w1' : s1 ≤ 2880 := by omega
              have w2' : s2 ≤ 2880 := by omega
              have w3' := z3.1
              have w4' := z4.1
              have lk := HBk.out.lt
              have e0 := HBk.out.cell 0
              have e1 := HBk.out.cell 1
              simp only [List.getElem?_toArray, List.getElem?_cons_zero, List.getElem?_cons_succ] at e0 e1
              have g0 := Later.cells (B := wk.heap.size) (w := wk) e0 lk
              have g1' := Later.cells (B := wk.heap.size) (w := wk) e1 lk
              have gb := Nat.lt_of_lt_of_le HCC.out.1 HW.out.size
              have ga := Later.cells (B := wk.heap.size) (w := wk) ((HW.out.cell (p := ⟨b, off + at_, none⟩) HCC.out.1).trans (HCC.out.2 at_ g1).1) gb
              have cj := (HW.out.cell (p := ⟨b, off + j, none⟩) HCC.out.1).trans (HCC.out.2 j hjn).1
              have A1 := hid fun x : Later wk.heap.size wk => Calls.later_of (v := .tuple #[.int .i64 x1, .int .i64 0]) (x := x) (Nat.le_refl _) (HX1.out x.up)
              clear y1 y2 hx1 hx2 hs1 hs2 u1 u2 e0 e1 z3 z4
              go_wp2
              refine wp_region_later wk.heap.size (by kernel_rfl) (by kernel_rfl) ?_
              repeat (go_big_quiet_step ((go_at_call 28; exact A1.out _)))
              refine wpQuiet_nil ?_
              rintro wm ⟨⟨_, hbm⟩, rfl⟩
              have HWm := hid (btr HW.out hbm HW.out.size)
              have HBm := hid (HBk.out.below' hbm)
              have lkm := hbm.size
              clear g0 g1' ga A1 HX1 cj
              have e0 := HBm.out.cell 0
              have e1 := HBm.out.cell 1
              simp only [List.getElem?_toArray, List.getElem?_cons_zero, List.getElem?_cons_succ] at e0 e1
              have g0 := Later.cells (B := wk.heap.size) (w := wm) e0 lk
              have g1' := Later.cells (B := wk.heap.size) (w := wm) e1 lk
              have ga := Later.cells (B := wk.heap.size) (w := wm) ((HWm.out.cell (p := ⟨b, off + k, none⟩) HCC.out.1).trans (HCC.out.2 k hkn).1) gb
              have A1 := hid fun x : Later wk.heap.size wm => Calls.later_of (v := .tuple #[.int .i64 x2, .int .i64 0]) (x := x) lkm (HX2.out x.up)
              clear e0 e1 hbm HBk
              go_wp2
              refine wp_region_later wk.heap.size (by kernel_rfl) (by kernel_rfl) ?_
              repeat (go_big_quiet_step ((go_at_call 28; exact A1.out _)))
              refine wpQuiet_nil ?_
              rintro _ ⟨⟨wn, hbn⟩, rfl⟩
              have HWn := hid (HWm.out.trans (hbn.mono HW.out.size))
              have HBn := hid (HBm.out.below hbn lk)
              clear hbn g0 g1' ga A1 HX2 lk gb HWm HBm HW
              go_wp2
              go_roundw
              case rel => exact ⟨j + 1, by omega, by rw [HU.out.1], by rw [HU.out.2], by go_num, HWn, HBn⟩
              case measure => simp [intOf]; omega
            · obtain rfl : j = n := by omega
              have hG1 := HG.out.1
              have hG2 := HG.out.2
              unfold mdF at hG1 hG2
              rw [hG1, hG2]
              clear hG1 hG2
              go_wp2_with (go_at_call 20; refine (awake_any _).mono ?_; rintro e w9 ⟨rfl, hb⟩)
              go_ret
              exact ⟨rfl, btr HW.out hb HW.out.size⟩
end Go.Proofs.YtmhlgnhfbickdaaDoor
