/-
  The walk of the law TopPrint. Conditions: the arguments lie in memory.
-/
import Derived.Test.YtmhlgnhfbickdaaDoorP52
import Derived.Test.YtmhlgnhfbickdaaDoorP55
namespace Go.Proofs.YtmhlgnhfbickdaaDoor
set_option linter.unusedVariables false
set_option linter.unusedSimpArgs false
open Go.RowKit Go.Shelf

theorem three_new (w : World) (s t u : ByteArray) (hs : s.size ≤ 9223372036854775807) (ht : t.size ≤ 9223372036854775807) (hu : u.size ≤ 9223372036854775807) :
    StrsAt (w.alloc (.cells #[.string s, .string t, .string u] 9)) (some ⟨w.heap.size, 0, none⟩) 3 (three s t u) := by
  refine ⟨by omega, w.heap.size, 0, fun _ => by simp, fun _ => rfl, fun i hi => ?_⟩
  have h := Blk.new w 9 #[.string s, .string t, .string u]
  have e : i = 0 ∨ i = 1 ∨ i = 2 := by omega
  rcases e with rfl | rfl | rfl
  · exact ⟨h.cell 0, hs⟩
  · exact ⟨h.cell 1, ht⟩
  · exact ⟨h.cell 2, hu⟩
theorem three_ar {s t u : ByteArray} (h1 : valB s = true) (h2 : valB t = true) (h3 : valB u = true) : arB 3 (three s t u) = true := by
  unfold arB
  rw [btw_true (by omega) (by omega), Bool.true_and, Bool.not_eq_true', anyB_false]
  intro i hi
  unfold nvB
  have e : i = 0 ∨ i = 1 ∨ i = 2 := by omega
  rcases e with rfl | rfl | rfl
  · show (!valB s) = false; rw [h1]; rfl
  · show (!valB t) = false; rw [h2]; rfl
  · show (!valB u) = false; rw [h3]; rfl
theorem top_near {s t u : ByteArray} {p c : Nat} (hp : 1 ≤ p) (hc : 1 ≤ c) : ∃ i : Nat, bestI (dsF (three s t u) t (p : Int) (c : Int)) 3 = i ∧ dsF (three s t u) t (p : Int) (c : Int) i = 0 ∧ ((i = 0 ∧ s = t) ∨ i = 1) := by
  obtain ⟨h1, h2, h3⟩ := bestI_spec (dsF (three s t u) t (p : Int) (c : Int)) 3 (by omega)
  have e1 : dsF (three s t u) t (p : Int) (c : Int) 1 = 0 := by
    unfold dsF three
    simp only [Int.toNat_natCast]
    show ((dst p c t.data.toList t.data.toList : Nat) : Int) = 0
    rw [dst_self]; rfl
  have hn : ∀ j, 0 ≤ dsF (three s t u) t (p : Int) (c : Int) j := fun j => by unfold dsF; omega
  refine ⟨_, rfl, ?_, ?_⟩
  · have a := h2 1 (by omega)
    have b := hn (bestI (dsF (three s t u) t (p : Int) (c : Int)) 3)
    omega
  · have a := h2 1 (by omega)
    generalize bestI (dsF (three s t u) t (p : Int) (c : Int)) 3 = i at h1 h2 h3 a ⊢
    have e : i = 0 ∨ i = 1 ∨ i = 2 := by omega
    rcases e with rfl | rfl | rfl
    · refine .inl ⟨rfl, ?_⟩
      have b := hn 0
      have e0 : dsF (three s t u) t (p : Int) (c : Int) 0 = ((dst p c s.data.toList t.data.toList : Nat) : Int) := by unfold dsF three; simp only [Int.toNat_natCast]; rfl
      have : dst p c s.data.toList t.data.toList = 0 := by omega
      exact bytes_ext ((dst_zero hp hc _ _).1 this)
    · exact .inr rfl
    · have := h3 1 (by omega)
      have b := hn 2
      omega
theorem top_mid {s t u : ByteArray} {p c : Nat} {a b d : Nat} (ha : dst p c s.data.toList t.data.toList = a) (hb : dst p c t.data.toList u.data.toList = b) (hd : dst p c s.data.toList u.data.toList = d) :
    mdF 3 (three s t u) (p : Int) (c : Int) 0 = (a : Int) + (d : Int) ∧ mdF 3 (three s t u) (p : Int) (c : Int) 1 = (a : Int) + (b : Int) ∧ mdF 3 (three s t u) (p : Int) (c : Int) 2 = (b : Int) + (d : Int) := by
  have e : ∀ i j, dsF (three s t u) (three s t u i) (p : Int) (c : Int) j = ((dst p c (three s t u j).data.toList (three s t u i).data.toList : Nat) : Int) := fun i j => by unfold dsF; rw [Int.toNat_natCast, Int.toNat_natCast]
  have sm : ∀ f : Nat → Int, sumN f 3 = 0 + f 0 + f 1 + f 2 := fun f => rfl
  unfold mdF
  rw [sm, sm, sm]
  simp only [e]
  show ((0 + ((dst p c s.data.toList s.data.toList : Nat) : Int) + ((dst p c t.data.toList s.data.toList : Nat) : Int) + ((dst p c u.data.toList s.data.toList : Nat) : Int)) = _) ∧ ((0 + ((dst p c s.data.toList t.data.toList : Nat) : Int) + ((dst p c t.data.toList t.data.toList : Nat) : Int) + ((dst p c u.data.toList t.data.toList : Nat) : Int)) = _) ∧ ((0 + ((dst p c s.data.toList u.data.toList : Nat) : Int) + ((dst p c t.data.toList u.data.toList : Nat) : Int) + ((dst p c u.data.toList u.data.toList : Nat) : Int)) = _)
  rw [dst_self, dst_self, dst_self, dst_comm t.data.toList s.data.toList, dst_comm u.data.toList s.data.toList, dst_comm u.data.toList t.data.toList, ha, hb, hd]
  omega
theorem min3_run {x y z v : Int} (h1 : v ≤ x) (h2 : v ≤ y) (h3 : v ≤ z) (h : v = x ∨ v = y ∨ v = z) (w : World) : (Builtin.min_ #[3, 3, 3] 3 #[.int .i64 x, .int .i64 y, .int .i64 z]).run Tryd.prog w = .ok (.int .i64 v) w := by
  have e : (if z < (if y < x then y else x) then z else (if y < x then y else x)) = v := by
    by_cases a : y < x
    · rw [if_pos a]
      by_cases b : z < y
      · rw [if_pos b]; omega
      · rw [if_neg b]; omega
    · rw [if_neg a]
      by_cases b : z < x
      · rw [if_pos b]; omega
      · rw [if_neg b]; omega
  rw [← e]
  simp [Builtin.min_, Builtin.min2]
set_option maxRecDepth 100000 in
set_option maxHeartbeats 8000000 in
theorem topPrint_walk (A : Option Addr) (n cap : Nat) (ss : Nat → ByteArray) (p c : Int) (A2 : Option Addr) (n2 cap2 : Nat) (f : Nat → Int) (A3 : Option Addr) (n3 cap3 : Nat) (m : Nat → Nat) (f3 : Nat → Nat → Int) (x : Int) (w : World) (hss : StrsAt w A n ss) (hl : HoursAt w A2 n2 f) (hl3 : TabAt w A3 n3 m f3) :
    Calls Tryd.prog 3 #[.slice A n cap, .agg #[.int .i64 p, .int .i64 c], .slice A2 n2 cap2, .slice A3 n3 cap3, .int .i64 x] w fun e w' => e = .returned (.bool true) ∧ Below w.heap.size w w' := by
  have hb0 := hid (box_bel w (.cells #[.int .i64 p, .int .i64 c] 24))
  have HB := hid (Blk.new w 24 #[.int .i64 p, .int .i64 c])
  have HL := hid hss
  have HE := hid hl
  have HT := hid hl3
  have HT0 := hid (hl3.below hb0.out)
  clear hss hl hl3
  by_cases h1 : (n : Int) < 3
  · go_enter Tryd.func3, Tryd.ntmps3
    go_wp2_with (go_at_call 20; refine (awake_any _).mono ?_; rintro e w' ⟨rfl, hb⟩)
    go_ret
    exact ⟨rfl, btr hb0.out hb (by simp)⟩
  · have d1 : decide ((n : Int) < 3) = false := decide_eq_false h1
    by_cases h2 : (40 : Int) < (n : Int)
    · clear h1
      go_enter Tryd.func3, Tryd.ntmps3
      go_wp2_with (go_at_call 20; refine (awake_any _).mono ?_; rintro e w' ⟨rfl, hb⟩)
      go_ret
      exact ⟨rfl, btr hb0.out hb (by simp)⟩
    · have d2 : decide ((40 : Int) < (n : Int)) = false := decide_eq_false h2
      by_cases h3 : (200 : Int) < (n2 : Int)
      · clear h1 h2
        go_enter Tryd.func3, Tryd.ntmps3
        go_wp2_with (go_at_call 20; refine (awake_any _).mono ?_; rintro e w' ⟨rfl, hb⟩)
        go_ret
        exact ⟨rfl, btr hb0.out hb (by simp)⟩
      · have d3 : decide ((200 : Int) < (n2 : Int)) = false := decide_eq_false h3
        have hn3 : 3 ≤ n := by omega
        clear h1 h2 h3
        by_cases hw : wideB n3 m = true
        · have HW := hid hw
          clear hw
          go_enter Tryd.func3, Tryd.ntmps3
          go_wp2_with fail
          refine (wide_any A3 n3 cap3 m f3 _ HT0.out).mono ?_
          rintro e w' ⟨rfl, rfl⟩
          rw [HW.out]
          go_wp2_with (go_at_call 20; refine (awake_any _).mono ?_; rintro e w' ⟨rfl, hb⟩)
          go_ret
          exact ⟨rfl, btr hb0.out hb (by simp)⟩
        · have HW : Hid (wideB n3 m = false) := hid (by cases h : wideB n3 m; (· rfl); (· exact absurd h hw))
          clear hw
          have c0 := HB.out.cell 0
          have c1 := HB.out.cell 1
          simp only [List.getElem?_toArray, List.getElem?_cons_zero, List.getElem?_cons_succ] at c0 c1
          obtain ⟨hn9, b, off, hlt, hA, hc⟩ := HL.out
          obtain rfl := hA (by omega)
          have HCC := hid (And.intro (hlt (by omega)) hc)
          clear hlt hA hc
          go_enter Tryd.func3, Tryd.ntmps3
          go_wp2_with fail
          refine (wide_any A3 n3 cap3 m f3 _ HT0.out).mono ?_
          rintro e w' ⟨rfl, rfl⟩
          rw [HW.out]
          go_wp2_with fail
          refine (rVCosts_any p c _).mono ?_
          rintro e w1 ⟨rfl, hb⟩
          have K1 := hid (btr hb0.out hb hb0.out.size)
          have B1 := hid (HB.out.below' hb)
          clear hb hb0 HB c0 c1 d1 d2 d3 HT0
          cases hvc : vcB p c
          · clear hvc
            go_wp2_with (go_at_call 20; refine (awake_any _).mono ?_; rintro e w' ⟨rfl, hb⟩)
            go_ret
            exact ⟨rfl, btr K1.out hb K1.out.size⟩
          · have HVC := hid hvc
            clear hvc
            have g1 : (0 : Int) < (n : Int) := by omega
            have g2 : (1 : Int) < (n : Int) := by omega
            have g3 : (2 : Int) < (n : Int) := by omega
            have k0 := (K1.out.cell (p := ⟨b, off + 0, none⟩) HCC.out.1).trans (HCC.out.2 0 (by omega)).1
            have k1 := (K1.out.cell (p := ⟨b, off + 1, none⟩) HCC.out.1).trans (HCC.out.2 1 (by omega)).1
            have k2 := (K1.out.cell (p := ⟨b, off + 2, none⟩) HCC.out.1).trans (HCC.out.2 2 (by omega)).1
            have z0 := (HCC.out.2 0 (by omega)).2
            have z1 := (HCC.out.2 1 (by omega)).2
            have z2 := (HCC.out.2 2 (by omega)).2
            rw [Nat.add_zero] at k0
            obtain ⟨s, hs⟩ : ∃ s, ss 0 = s := ⟨_, rfl⟩
            obtain ⟨t, ht⟩ : ∃ t, ss 1 = t := ⟨_, rfl⟩
            obtain ⟨u, hu⟩ : ∃ u, ss 2 = u := ⟨_, rfl⟩
            rw [hs] at k0 z0
            rw [ht] at k1 z1
            rw [hu] at k2 z2
            have HZZ := hid (And.intro z0 (And.intro z1 z2))
            clear hs ht hu z0 z1 z2
            go_wp2
            go_quiet (fail)
            have K2 := hid (btr K1.out (bdr w1 nq) K1.out.size)
            have B2 := hid (B1.out.drewN nq)
            clear k0 k1 k2 g1 g2 g3 K1 B1
            generalize w1.drewN nq = w2 at K2 B2 ⊢
            go_wp2_with fail
            refine (rValid_any s _ HZZ.out.1).mono ?_
            rintro e w' ⟨rfl, rfl⟩
            cases v1 : valB s
            · clear v1
              go_wp2_with (go_at_call 20; refine (awake_any _).mono ?_; rintro e w' ⟨rfl, hb⟩)
              go_ret
              exact ⟨rfl, btr K2.out hb K2.out.size⟩
            · have V1 := hid v1
              clear v1
              go_wp2_with fail
              refine (rValid_any t _ HZZ.out.2.1).mono ?_
              rintro e w' ⟨rfl, rfl⟩
              cases v2 : valB t
              · clear v2
                go_wp2_with (go_at_call 20; refine (awake_any _).mono ?_; rintro e w' ⟨rfl, hb⟩)
                go_ret
                exact ⟨rfl, btr K2.out hb K2.out.size⟩
              · have V2 := hid v2
                clear v2
                go_wp2_with fail
                refine (rValid_any u _ HZZ.out.2.2).mono ?_
                rintro e w' ⟨rfl, rfl⟩
                cases v3 : valB u
                · clear v3
                  go_wp2_with (go_at_call 20; refine (awake_any _).mono ?_; rintro e w' ⟨rfl, hb⟩)
                  go_ret
                  exact ⟨rfl, btr K2.out hb K2.out.size⟩
                · have V3 := hid v3
                  clear v3
                  have hr := vcB_true.1 HVC.out
                  obtain ⟨p, rfl⟩ : ∃ p' : Nat, p = (p' : Int) := ⟨p.toNat, by omega⟩
                  obtain ⟨c, rfl⟩ : ∃ c' : Nat, c = (c' : Int) := ⟨c.toNat, by omega⟩
                  have hp1 : 1 ≤ p := by omega
                  have hp9 : p ≤ 9 := by omega
                  have hc1 : 1 ≤ c := by omega
                  have HP := hid (codeP_ok V1.out V2.out HVC.out)
                  have q1 := dst_360 (c := c) V1.out V2.out (p := p) hp9
                  have q2 := dst_360 (c := c) V2.out V3.out (p := p) hp9
                  have q3 := dst_360 (c := c) V1.out V3.out (p := p) hp9
                  have t1 := dst_triangle (p := p) (c := c) s.data.toList t.data.toList u.data.toList
                  have t2 := dst_triangle (p := p) (c := c) s.data.toList u.data.toList t.data.toList
                  have t3 := dst_triangle (p := p) (c := c) t.data.toList s.data.toList u.data.toList
                  rw [dst_comm u.data.toList t.data.toList] at t2
                  rw [dst_comm t.data.toList s.data.toList] at t3
                  have P1 := hid fun wx => proved_any s t p c wx V1.out V2.out HVC.out
                  have P2 := hid fun wx => proved_any t u p c wx V2.out V3.out HVC.out
                  have P3 := hid fun wx => proved_any s u p c wx V1.out V3.out HVC.out
                  have HNO := hid (provV_le (s := s) (t := t) (p := p) (c := c) (n := n3) (m := m) (f := f3) (x := x) HP.out)
                  have HCG := hid (costV_ge (s := s) (t := t) (p := p) (c := c) (n := n2) (f := f) HP.out)
                  have HTN := hid (top_near (s := s) (t := t) (u := u) hp1 hc1)
                  have htm := fun a b d => top_mid (s := s) (t := t) (u := u) (p := p) (c := c) (a := a) (b := b) (d := d)
                  obtain ⟨da, hda⟩ : ∃ da, dst p c s.data.toList t.data.toList = da := ⟨_, rfl⟩
                  obtain ⟨db, hdb⟩ : ∃ db, dst p c t.data.toList u.data.toList = db := ⟨_, rfl⟩
                  obtain ⟨dd, hdd⟩ : ∃ dd, dst p c s.data.toList u.data.toList = dd := ⟨_, rfl⟩
                  have HMD := hid (htm da db dd hda hdb hdd)
                  rw [hda] at q1 t1 t2 t3 P1 HNO HCG
                  rw [hdb] at q2 t1 t2 t3 P2
                  rw [hdd] at q3 t1 t2 t3 P3
                  have u1 : decide ((da : Int) + (db : Int) < (dd : Int)) = false := by simp; omega
                  have u2 : decide ((dd : Int) + (db : Int) < (da : Int)) = false := by simp; omega
                  have u3 : decide ((da : Int) + (dd : Int) < (db : Int)) = false := by simp; omega
                  clear htm hda hdb hdd
                  have c0 := B2.out.cell 0
                  have c1 := B2.out.cell 1
                  simp only [List.getElem?_toArray, List.getElem?_cons_zero, List.getElem?_cons_succ] at c0 c1
                  go_wp2_with fail
                  refine (P1.out _).mono ?_
                  rintro e w3 ⟨rfl, hb⟩
                  have K3 := hid (btr K2.out hb K2.out.size)
                  have B3 := hid (B2.out.below' hb)
                  clear hb c0 c1
                  have c0 := B3.out.cell 0
                  have c1 := B3.out.cell 1
                  simp only [List.getElem?_toArray, List.getElem?_cons_zero, List.getElem?_cons_succ] at c0 c1
                  go_wp2_with fail
                  refine (P2.out _).mono ?_
                  rintro e w4 ⟨rfl, hb⟩
                  have K4 := hid (btr K3.out hb K3.out.size)
                  have B4 := hid (B3.out.below' hb)
                  clear hb c0 c1
                  have c0 := B4.out.cell 0
                  have c1 := B4.out.cell 1
                  simp only [List.getElem?_toArray, List.getElem?_cons_zero, List.getElem?_cons_succ] at c0 c1
                  go_wp2_with fail
                  refine (P3.out _).mono ?_
                  rintro e w5 ⟨rfl, hb⟩
                  have K5 := hid (btr K4.out hb K4.out.size)
                  have B5 := hid (B4.out.below' hb)
                  clear hb c0 c1
                  have c0 := B5.out.cell 0
                  have c1 := B5.out.cell 1
                  simp only [List.getElem?_toArray, List.getElem?_cons_zero, List.getElem?_cons_succ] at c0 c1
                  go_wp2_with fail
                  refine (proves_any s t A3 n3 cap3 m f3 (p : Int) (c : Int) x _ HZZ.out.1 HZZ.out.2.1 (HT.out.below K5.out)).mono ?_
                  rintro e w6 ⟨rfl, hb⟩
                  have K6 := hid (btr K5.out hb K5.out.size)
                  have B6 := hid (B5.out.below' hb)
                  clear hb c0 c1
                  obtain ⟨n1, n4⟩ := HNO.out
                  obtain ⟨pv, hpv⟩ : ∃ pv, (provV s t (p : Int) (c : Int) n3 m f3 x).1 = pv := ⟨_, rfl⟩
                  obtain ⟨cd, hcd⟩ : ∃ cd, (provV s t (p : Int) (c : Int) n3 m f3 x).2 = cd := ⟨_, rfl⟩
                  rw [hpv] at n1 ⊢
                  rw [hcd] at n4 ⊢
                  clear hpv hcd HNO u1 u2 u3 t1 t2 t3
                  have c0 := B6.out.cell 0
                  have c1 := B6.out.cell 1
                  simp only [List.getElem?_toArray, List.getElem?_cons_zero, List.getElem?_cons_succ] at c0 c1
                  go_wp2_with fail
                  refine (costOf_any s t A2 n2 cap2 f (p : Int) (c : Int) _ HZZ.out.1 HZZ.out.2.1 (HE.out.below K6.out)).mono ?_
                  rintro e w7 ⟨rfl, hb⟩
                  have K7 := hid (btr K6.out hb K6.out.size)
                  have B7 := hid (B6.out.below' hb)
                  clear hb c0 c1
                  have har := three_ar V1.out V2.out V3.out
                  have hz1 : disC 3 (three s t u) t (p : Int) (c : Int) true = 0 := disC_ok (by rw [har, V2.out]; rfl) HVC.out
                  have hz2 : midC 3 (three s t u) (p : Int) (c : Int) = 0 := by rw [midC_ar har, HVC.out]; rfl
                  have HN1 := hid fun wx A cap h => nearest_any A 3 cap (three s t u) t (p : Int) (c : Int) wx h HZZ.out.2.1
                  have HM1 := hid fun wx A cap h => middle_any A 3 cap (three s t u) (p : Int) (c : Int) wx h
                  unfold NearR nearI nearM at HN1 HM1
                  rw [hz1, if_pos rfl, if_pos rfl, bI_dsL, bV_dsL (by omega)] at HN1
                  rw [hz2, if_pos rfl, if_pos rfl, bI_dsL, bV_dsL (by omega)] at HM1
                  obtain ⟨bi, hbi, hbz, hbc⟩ := HTN.out
                  rw [hbi, hbz] at HN1
                  obtain ⟨g1, g2, g3⟩ := bestI_spec (mdF 3 (three s t u) (p : Int) (c : Int)) 3 (by omega)
                  obtain ⟨m0, m1, m2⟩ := HMD.out
                  have y0 := g2 0 (by omega)
                  have y1 := g2 1 (by omega)
                  have y2 := g2 2 (by omega)
                  obtain ⟨at_, hat⟩ : ∃ at_, bestI (mdF 3 (three s t u) (p : Int) (c : Int)) 3 = at_ := ⟨_, rfl⟩
                  rw [hat] at HM1 g1 y0 y1 y2
                  obtain ⟨sm, hsm⟩ : ∃ sm, mdF 3 (three s t u) (p : Int) (c : Int) at_ = sm := ⟨_, rfl⟩
                  rw [hsm] at HM1 y0 y1 y2
                  rw [m0] at y0
                  rw [m1] at y1
                  rw [m2] at y2
                  have hcase : (at_ = 0 ∧ sm = (da : Int) + (dd : Int)) ∨ (at_ = 1 ∧ sm = (da : Int) + (db : Int)) ∨ (at_ = 2 ∧ sm = (db : Int) + (dd : Int)) := by
                    have e : at_ = 0 ∨ at_ = 1 ∨ at_ = 2 := by omega
                    rcases e with rfl | rfl | rfl
                    · exact .inl ⟨rfl, by rw [← hsm, m0]⟩
                    · exact .inr (.inl ⟨rfl, by rw [← hsm, m1]⟩)
                    · exact .inr (.inr ⟨rfl, by rw [← hsm, m2]⟩)
                  have HCASE := hid (And.intro hcase (And.intro y0 (And.intro y1 y2)))
                  have HBC := hid hbc
                  clear har hz1 hz2 hbi hbz hbc g1 g2 g3 m0 m1 m2 y0 y1 y2 hat hsm hcase HTN HMD
                  have HPV := hid (And.intro n1 n4)
                  clear n1 n4
                  obtain ⟨cy, cc, hcv, hcc⟩ : ∃ cy cc, costV s t (p : Int) (c : Int) n2 f = (cy, cc) ∧ (cc = 5 ∨ (cc = 0 ∧ (da : Int) ≤ cy)) := by
                    rcases HCG.out with h | ⟨y, h, hy⟩
                    · exact ⟨_, _, h, .inl rfl⟩
                    · exact ⟨_, _, h, .inr ⟨rfl, by omega⟩⟩
                  rw [hcv]
                  have HCC2 := hid hcc
                  clear hcv hcc HCG
                  go_upto_region 13 with fail
                  go_cut [184] from 146 to 184 (fun v wd => v = .bool false ∧ wd = w7)
                  case first =>
                    rcases HPV.out.2 with rfl | rfl
                    · rcases HCC2.out with rfl | ⟨rfl, hcy⟩
                      · cases pv
                        · go_wp2
                          go_meet
                          exact ⟨rfl, rfl⟩
                        · have w1' : decide ((da : Int) < x) = false := by have := HPV.out.1 rfl; simp; omega
                          go_wp2
                          go_meet
                          exact ⟨rfl, rfl⟩
                      · have w2' : decide (cy < (da : Int)) = false := by simp; omega
                        cases pv
                        · go_wp2
                          go_meet
                          exact ⟨rfl, rfl⟩
                        · have w1' : decide ((da : Int) < x) = false := by have := HPV.out.1 rfl; simp; omega
                          have w3' : decide (cy < x) = false := by have := HPV.out.1 rfl; simp; omega
                          clear hcy
                          go_wp2
                          go_meet
                          exact ⟨rfl, rfl⟩
                    · rcases HCC2.out with rfl | ⟨rfl, hcy⟩
                      · cases pv
                        · go_wp2
                          go_meet
                          exact ⟨rfl, rfl⟩
                        · have w1' : decide ((da : Int) < x) = false := by have := HPV.out.1 rfl; simp; omega
                          go_wp2
                          go_meet
                          exact ⟨rfl, rfl⟩
                      · have w2' : decide (cy < (da : Int)) = false := by simp; omega
                        cases pv
                        · go_wp2
                          go_meet
                          exact ⟨rfl, rfl⟩
                        · have w1' : decide ((da : Int) < x) = false := by have := HPV.out.1 rfl; simp; omega
                          have w3' : decide (cy < x) = false := by have := HPV.out.1 rfl; simp; omega
                          clear hcy
                          go_wp2
                          go_meet
                          exact ⟨rfl, rfl⟩
                  case rest =>
                    obtain ⟨rfl, rfl⟩ := hcut
                    have HS3 := hid (three_new wc s t u HZZ.out.1 HZZ.out.2.1 HZZ.out.2.2)
                    have B8 := hid (B7.out.alloc (.cells #[.string s, .string t, .string u] 9))
                    have K8 := hid (K7.out.alloc K7.out.size (.cells #[.string s, .string t, .string u] 9))
                    have N8 := hid (Blk.new wc 9 #[.string s, .string t, .string u])
                    have c0 := B8.out.cell 0
                    have c1 := B8.out.cell 1
                    simp only [List.getElem?_toArray, List.getElem?_cons_zero, List.getElem?_cons_succ] at c0 c1
                    go_wp2_with fail
                    refine (HN1.out _ _ _ HS3.out).mono ?_
                    rintro e w9 ⟨rfl, hb⟩
                    have S9 := hid (HS3.out.below hb)
                    have K9 := hid (btr K8.out hb K8.out.size)
                    have B9 := hid (B8.out.below' hb)
                    have N9 := hid (N8.out.below' hb)
                    clear hb c0 c1
                    have c0 := B9.out.cell 0
                    have c1 := B9.out.cell 1
                    simp only [List.getElem?_toArray, List.getElem?_cons_zero, List.getElem?_cons_succ] at c0 c1
                    go_wp2_with fail
                    refine (HM1.out _ _ _ S9.out).mono ?_
                    rintro e w10 ⟨rfl, hb⟩
                    have K10 := hid (btr K9.out hb K9.out.size)
                    have N10 := hid (N9.out.below' hb)
                    clear hb c0 c1
                    have n0 := N10.out.cell 0
                    have n1 := N10.out.cell 1
                    simp only [List.getElem?_toArray, List.getElem?_cons_zero, List.getElem?_cons_succ] at n0 n1
                    go_upto_region 19 with fail
                    have M := Blk.new w10 41 #[.int .i64 ((da : Int) + (dd : Int)), .int .i64 ((da : Int) + (db : Int)), .int .i64 ((db : Int) + (dd : Int))]
                    have K11 := hid (K10.out.alloc K10.out.size (.cells #[.int .i64 ((da : Int) + (dd : Int)), .int .i64 ((da : Int) + (db : Int)), .int .i64 ((db : Int) + (dd : Int))] 41))
                    have N11 := N10.out.alloc (.cells #[.int .i64 ((da : Int) + (dd : Int)), .int .i64 ((da : Int) + (db : Int)), .int .i64 ((db : Int) + (dd : Int))] 41)
                    have r0 := M.cell 0
                    have r1 := M.cell 1
                    have r2 := M.cell 2
                    clear n0 n1
                    have n0 := N11.cell 0
                    have n1 := N11.cell 1
                    simp only [List.getElem?_toArray, List.getElem?_cons_zero, List.getElem?_cons_succ] at n0 n1 r0 r1 r2
                    clear M N11 HN1 HM1
                    rcases HBC.out with ⟨rfl, hst⟩ | rfl
                    · have hst2 := hst
                      rw [hst] at n0
                      clear hst hst2
                      rcases HCASE.out with ⟨⟨rfl, rfl⟩ | ⟨rfl, rfl⟩ | ⟨rfl, rfl⟩, y0, y1, y2⟩
                      · have hmn := fun w => min3_run (x := ((da : Int) + (dd : Int))) (y := ((da : Int) + (db : Int))) (z := ((db : Int) + (dd : Int))) (v := ((da : Int) + (dd : Int))) y0 y1 y2 (.inl rfl) w
                        clear y0 y1 y2
                        go_wp2_with (go_at_call 20; refine (awake_any _).mono ?_; rintro e w11 ⟨rfl, hb⟩)
                        go_ret
                        exact ⟨rfl, btr K11.out hb K11.out.size⟩
                      · have hmn := fun w => min3_run (x := ((da : Int) + (dd : Int))) (y := ((da : Int) + (db : Int))) (z := ((db : Int) + (dd : Int))) (v := ((da : Int) + (db : Int))) y0 y1 y2 (.inr (.inl rfl)) w
                        clear y0 y1 y2
                        go_wp2_with (go_at_call 20; refine (awake_any _).mono ?_; rintro e w11 ⟨rfl, hb⟩)
                        go_ret
                        exact ⟨rfl, btr K11.out hb K11.out.size⟩
                      · have hmn := fun w => min3_run (x := ((da : Int) + (dd : Int))) (y := ((da : Int) + (db : Int))) (z := ((db : Int) + (dd : Int))) (v := ((db : Int) + (dd : Int))) y0 y1 y2 (.inr (.inr rfl)) w
                        clear y0 y1 y2
                        go_wp2_with (go_at_call 20; refine (awake_any _).mono ?_; rintro e w11 ⟨rfl, hb⟩)
                        go_ret
                        exact ⟨rfl, btr K11.out hb K11.out.size⟩
                    · rcases HCASE.out with ⟨⟨rfl, rfl⟩ | ⟨rfl, rfl⟩ | ⟨rfl, rfl⟩, y0, y1, y2⟩
                      · have hmn := fun w => min3_run (x := ((da : Int) + (dd : Int))) (y := ((da : Int) + (db : Int))) (z := ((db : Int) + (dd : Int))) (v := ((da : Int) + (dd : Int))) y0 y1 y2 (.inl rfl) w
                        clear y0 y1 y2
                        go_wp2_with (go_at_call 20; refine (awake_any _).mono ?_; rintro e w11 ⟨rfl, hb⟩)
                        go_ret
                        exact ⟨rfl, btr K11.out hb K11.out.size⟩
                      · have hmn := fun w => min3_run (x := ((da : Int) + (dd : Int))) (y := ((da : Int) + (db : Int))) (z := ((db : Int) + (dd : Int))) (v := ((da : Int) + (db : Int))) y0 y1 y2 (.inr (.inl rfl)) w
                        clear y0 y1 y2
                        go_wp2_with (go_at_call 20; refine (awake_any _).mono ?_; rintro e w11 ⟨rfl, hb⟩)
                        go_ret
                        exact ⟨rfl, btr K11.out hb K11.out.size⟩
                      · have hmn := fun w => min3_run (x := ((da : Int) + (dd : Int))) (y := ((da : Int) + (db : Int))) (z := ((db : Int) + (dd : Int))) (v := ((db : Int) + (dd : Int))) y0 y1 y2 (.inr (.inr rfl)) w
                        clear y0 y1 y2
                        go_wp2_with (go_at_call 20; refine (awake_any _).mono ?_; rintro e w11 ⟨rfl, hb⟩)
                        go_ret
                        exact ⟨rfl, btr K11.out hb K11.out.size⟩
end Go.Proofs.YtmhlgnhfbickdaaDoor
