/-
  The walk of the law PrintProofs; the edits, the far numbers and what they prove, for valid prints. Conditions: stated at each.
-/
import Derived.Test.YtmhlgnhfbickdaaDoorP15
import Derived.Test.YtmhlgnhfbickdaaDoorP22
import Derived.Test.YtmhlgnhfbickdaaDoorP33
import Derived.Test.YtmhlgnhfbickdaaDoorP38
namespace Go.Proofs.YtmhlgnhfbickdaaDoor
set_option linter.unusedVariables false
set_option linter.unusedSimpArgs false
open Go.RowKit Go.Shelf

/-- the cheapest edits' numbers -/
def edG (s t : ByteArray) (p c : Nat) (i : Nat) : Int := (edt p c s.data.toList t.data.toList).getD i 0
def edN (s t : ByteArray) (p c : Nat) : Nat := (edt p c s.data.toList t.data.toList).length
theorem range_getD (l : List Int) : (List.range l.length).map (fun i => l.getD i 0) = l := by
  apply List.ext_getElem
  · simp
  · intro i h1 h2
    simp [List.getElem?_eq_getElem h2]
theorem dst_360 {s t : ByteArray} {p c : Nat} (h1 : valB s = true) (h2 : valB t = true) (hp : p ≤ 9) : dst p c s.data.toList t.data.toList ≤ 360 := by
  have s1 := (valB_true.1 h1).1
  have s2 := (valB_true.1 h2).1
  have h := dst_hi (p := p) (c := c) s.data.toList t.data.toList
  have e1 : s.data.toList.length = s.size := by simp
  have e2 : t.data.toList.length = t.size := by simp
  rw [e1, e2] at h
  exact Nat.le_trans h (Nat.le_trans (Nat.mul_le_mul hp (show s.size + t.size ≤ 40 by omega)) (by omega))
theorem ed_cst {s t : ByteArray} (p c p' c' : Nat) (h1 : s.size ≤ 20) (h2 : t.size ≤ 20) : cstO s t p' c' (edN s t p c) (edG s t p c) = cst p' c' (edt p c s.data.toList t.data.toList) s.data.toList t.data.toList := by
  have hl := edt_len (p := p) (c := c) s.data.toList t.data.toList
  have e1 : s.data.toList.length = s.size := by simp
  have e2 : t.data.toList.length = t.size := by simp
  rw [e1, e2] at hl
  unfold cstO cstAt edN edG
  rw [if_neg (by omega), range_getD]
  rfl
theorem ed_some {s t : ByteArray} (p c : Nat) (h1 : s.size ≤ 20) (h2 : t.size ≤ 20) : cstO s t p c (edN s t p c) (edG s t p c) = some (dst p c s.data.toList t.data.toList) := by rw [ed_cst p c p c h1 h2, edt_cst]
theorem ed_isE {s t : ByteArray} (p c : Nat) (h1 : s.size ≤ 20) (h2 : t.size ≤ 20) : isE s t (edN s t p c) (edG s t p c) = true := by rw [← isE_any s t p c, ed_some p c h1 h2]; rfl
theorem edits_ok (s t : ByteArray) (p c : Nat) (w : World) (h1 : valB s = true) (h2 : valB t = true) (h3 : vcB (p : Int) (c : Int) = true) :
    Calls Tryd.prog 35 #[.string s, .string t, .agg #[.int .i64 (p : Int), .int .i64 (c : Int)]] w fun e w' => ∃ A cap, e = .returned (.tuple #[.slice A (edN s t p c) cap, .int .i64 0]) ∧ HoursAt w' A (edN s t p c) (edG s t p c) ∧ Below w.heap.size w w' := by
  have hz := codeP_ok h1 h2 h3
  have s1 := (valB_true.1 h1).1
  have s2 := (valB_true.1 h2).1
  refine (edits_any s t (p : Int) (c : Int) w (by omega) (by omega)).mono ?_
  rintro e w' ⟨A, n, cap, rfl, hv, hb⟩
  rw [hz, if_pos rfl, Int.toNat_natCast, Int.toNat_natCast] at hv
  rw [hz]
  obtain ⟨A', cap', he, hh⟩ := hv
  simp only [Value.slice.injEq] at he
  obtain ⟨rfl, rfl, rfl⟩ := he
  exact ⟨A, cap, rfl, hh, hb⟩
theorem far_ok (s t : ByteArray) (p c : Nat) (w : World) (h1 : valB s = true) (h2 : valB t = true) (h3 : vcB (p : Int) (c : Int) = true) :
    Calls Tryd.prog 40 #[.string s, .string t, .agg #[.int .i64 (p : Int), .int .i64 (c : Int)]] w fun e w' => ∃ A cap, e = .returned (.tuple #[.slice A (s.size + 1) cap, .int .i64 0]) ∧ TabAt w' A (s.size + 1) (fun _ => t.size + 1) (farN p c s.data.toList t.data.toList) ∧ Below w.heap.size w w' := by
  have hz := codeP_ok h1 h2 h3
  have s1 := (valB_true.1 h1).1
  have s2 := (valB_true.1 h2).1
  refine (far_any s t (p : Int) (c : Int) w (by omega) (by omega)).mono ?_
  rintro e w' ⟨A, cap, rfl, hv, hb⟩
  unfold farL at hv ⊢
  rw [hz, if_pos rfl, Int.toNat_natCast, Int.toNat_natCast] at hv
  rw [hz, if_pos rfl]
  exact ⟨A, cap, rfl, hv, hb⟩
theorem far_tab {s t : ByteArray} {p c : Nat} (h1 : s.size ≤ 20) (h2 : t.size ≤ 20) (hp : p ≤ 9) : tabB s.size t.size (s.size + 1) (fun _ => t.size + 1) (farN p c s.data.toList t.data.toList) = true := by
  unfold tabB
  rw [decide_eq_true rfl, Bool.true_and, Bool.not_eq_true', anyB_false]
  intro i hi
  rw [decide_eq_true rfl, Bool.not_true, Bool.false_or, anyB_false]
  intro k hk
  rw [btw_true, Bool.not_true]
  · unfold farN; omega
  · unfold farN
    have h := dst_hi (p := p) (c := c) (s.data.toList.take i) (t.data.toList.take k)
    have g1 : s.data.toList.length = s.size := by simp
    have g2 : t.data.toList.length = t.size := by simp
    have e1 : (s.data.toList.take i).length ≤ 20 := by rw [List.length_take, g1]; omega
    have e2 : (t.data.toList.take k).length ≤ 20 := by rw [List.length_take, g2]; omega
    have := Nat.le_trans h (Nat.mul_le_mul hp (show (s.data.toList.take i).length + (t.data.toList.take k).length ≤ 40 by omega))
    omega
theorem provV_far {s t : ByteArray} {p c : Nat} {x : Int} (hz : codeP s t (p : Int) (c : Int) = 0) (h1 : s.size ≤ 20) (h2 : t.size ≤ 20) (hp : p ≤ 9) (h0 : 0 ≤ x) (hx : x ≤ 1000) :
    provV s t (p : Int) (c : Int) (s.size + 1) (fun _ => t.size + 1) (farN p c s.data.toList t.data.toList) x = (decide (x ≤ (dst p c s.data.toList t.data.toList : Nat)), 0) := by
  rw [provV_ok hz (btw_true h0 hx) (far_tab h1 h2 hp), prov_far]
theorem provV_le {s t : ByteArray} {p c : Nat} {n : Nat} {m : Nat → Nat} {f : Nat → Nat → Int} {x : Int} (hz : codeP s t (p : Int) (c : Int) = 0) : ((provV s t (p : Int) (c : Int) n m f x).1 = true → x ≤ (dst p c s.data.toList t.data.toList : Nat)) ∧ ((provV s t (p : Int) (c : Int) n m f x).2 = 0 ∨ (provV s t (p : Int) (c : Int) n m f x).2 = 2) := by
  cases h : (btw 0 x 1000 && tabB s.size t.size n m f)
  · rw [provV_arg hz h]
    exact ⟨fun h => (by cases h), .inr rfl⟩
  · rw [Bool.and_eq_true] at h
    rw [provV_ok hz h.1 h.2]
    exact ⟨fun h => prov_le h, .inl rfl⟩
theorem costV_ge {s t : ByteArray} {p c n : Nat} {f : Nat → Int} (hz : codeP s t (p : Int) (c : Int) = 0) : costV s t (p : Int) (c : Int) n f = (0, 5) ∨ ∃ y : Nat, costV s t (p : Int) (c : Int) n f = ((y : Int), 0) ∧ dst p c s.data.toList t.data.toList ≤ y := by
  cases h : cstO s t p c n f with
  | none => exact .inl (costV_none hz h)
  | some y =>
    refine .inr ⟨y, costV_some hz h, ?_⟩
    unfold cstO at h
    split at h
    · cases h
    · exact cst_ge _ _ _ _ h

set_option maxRecDepth 100000 in
set_option maxHeartbeats 8000000 in
theorem printProofs_walk (s t : ByteArray) (A : Option Addr) (n cap : Nat) (f : Nat → Int) (A2 : Option Addr) (n2 cap2 : Nat) (m : Nat → Nat) (f2 : Nat → Nat → Int) (p c : Int) (w : World) (hs : s.size ≤ 9223372036854775807) (ht : t.size ≤ 9223372036854775807) (hl : HoursAt w A n f) (hl2 : TabAt w A2 n2 m f2) :
    Calls Tryd.prog 17 #[.string s, .string t, .slice A n cap, .slice A2 n2 cap2, .agg #[.int .i64 p, .int .i64 c]] w fun e w' => e = .returned (.bool true) ∧ Below w.heap.size w w' := by
  have hb0 := hid (((box_bel w (.cells #[.int .i64 p, .int .i64 c] 24))).trans ((box_bel _ (.cells #[.string s, .string t] 9)).mono (by simp)))
  have HB := hid ((Blk.new w 24 #[.int .i64 p, .int .i64 c]).alloc (.cells #[.string s, .string t] 9))
  have HSS := hid (two_at w s t (.cells #[.int .i64 p, .int .i64 c] 24) hs ht)
  have HL := hid hl
  have HL2 := hid hl2
  clear hl hl2
  cases hask : askB 2 (two s t) p c
  · have HA := hid hask
    clear hask hs ht
    go_enter Tryd.func17, Tryd.ntmps17
    go_wp2_with fail
    refine (lawAsked_any _ _ _ (two s t) p c _ HSS.out).mono ?_
    rintro e w1 ⟨rfl, hb1⟩
    rw [HA.out]
    have K1 := hid (btr hb0.out hb1 hb0.out.size)
    clear hb1
    go_wp2_with (go_at_call 20; refine (awake_any _).mono ?_; rintro e w2 ⟨rfl, hb2⟩)
    go_ret
    exact ⟨rfl, btr K1.out hb2 K1.out.size⟩
  · obtain ⟨v1, v2, v3⟩ := ask2 hask
    have HA := hid hask
    have hr := vcB_true.1 v3
    have s1 := (valB_true.1 v1).1
    have s2 := (valB_true.1 v2).1
    obtain ⟨p, rfl⟩ : ∃ p' : Nat, p = (p' : Int) := ⟨p.toNat, by omega⟩
    obtain ⟨c, rfl⟩ : ∃ c' : Nat, c = (c' : Int) := ⟨c.toNat, by omega⟩
    have HZ := hid (codeV_ok v1 v2)
    have HP := hid (codeP_ok v1 v2 v3)
    have HV := hid (And.intro v1 (And.intro v2 v3))
    have HS := hid hs
    have HT := hid ht
    have hD := dst_360 (c := c) v1 v2 (p := p) (by omega)
    have HIE := hid (ed_isE (s := s) (t := t) p c s1 s2)
    have HCE := hid (costV_some HP.out (ed_some (s := s) (t := t) p c s1 s2))
    have HF1 := hid (provV_far (s := s) (t := t) (p := p) (c := c) (x := (dst p c s.data.toList t.data.toList : Nat)) HP.out s1 s2 (by omega) (by omega) (by omega))
    have HF2 := hid (provV_far (s := s) (t := t) (p := p) (c := c) (x := (dst p c s.data.toList t.data.toList : Nat) + 1) HP.out s1 s2 (by omega) (by omega) (by omega))
    have HNO := hid (provV_le (s := s) (t := t) (p := p) (c := c) (n := n2) (m := m) (f := f2) (x := (dst p c s.data.toList t.data.toList : Nat) + 1) HP.out)
    have HCG := hid (costV_ge (s := s) (t := t) (p := p) (c := c) (n := n) (f := f) HP.out)
    rw [decide_eq_true (Int.le_refl _)] at HF1
    rw [decide_eq_false (by omega)] at HF2
    have HDO := hid fun wx => dist_ok s t p c wx v1 v2 v3
    obtain ⟨D, hDD⟩ : ∃ D, dst p c s.data.toList t.data.toList = D := ⟨_, rfl⟩
    rw [hDD] at hD HCE HF1 HF2 HNO HCG HDO
    clear hask v1 v2 v3 hs ht hr s1 s2 hDD
    by_cases hlong : (200 : Int) < (n : Int) ∨ wideB n2 m = true
    · by_cases h3 : (200 : Int) < (n : Int)
      · clear hlong
        go_enter Tryd.func17, Tryd.ntmps17
        go_wp2_with fail
        refine (lawAsked_any _ _ _ (two s t) (p : Int) (c : Int) _ HSS.out).mono ?_
        rintro e w1 ⟨rfl, hb1⟩
        rw [HA.out]
        have K1 := hid (btr hb0.out hb1 hb0.out.size)
        clear hb1
        go_wp2_with (go_at_call 20; refine (awake_any _).mono ?_; rintro e w2 ⟨rfl, hb2⟩)
        go_ret
        exact ⟨rfl, btr K1.out hb2 K1.out.size⟩
      · have HW : Hid (wideB n2 m = true) := hid (by rcases hlong with h | h; (· exact absurd h h3); (· exact h))
        have h3' : decide ((200 : Int) < (n : Int)) = false := by simpa using h3
        clear hlong h3
        go_enter Tryd.func17, Tryd.ntmps17
        go_wp2_with fail
        refine (lawAsked_any _ _ _ (two s t) (p : Int) (c : Int) _ HSS.out).mono ?_
        rintro e w1 ⟨rfl, hb1⟩
        rw [HA.out]
        have K1 := hid (btr hb0.out hb1 hb0.out.size)
        clear hb1
        go_wp2_with fail
        refine (wide_any A2 n2 cap2 m f2 _ (HL2.out.below K1.out)).mono ?_
        rintro e w' ⟨rfl, rfl⟩
        rw [HW.out]
        go_wp2_with (go_at_call 20; refine (awake_any _).mono ?_; rintro e w2 ⟨rfl, hb2⟩)
        go_ret
        exact ⟨rfl, btr K1.out hb2 K1.out.size⟩
    · have HW : Hid (wideB n2 m = false) := hid (by cases hw : wideB n2 m; (· rfl); (· exact absurd (.inr hw) hlong))
      have h3' : decide ((200 : Int) < (n : Int)) = false := by simp; omega
      clear hlong
      go_enter Tryd.func17, Tryd.ntmps17
      go_wp2_with fail
      refine (lawAsked_any _ _ _ (two s t) (p : Int) (c : Int) _ HSS.out).mono ?_
      rintro e w1 ⟨rfl, hb⟩
      rw [HA.out]
      have K1 := hid (btr hb0.out hb hb0.out.size)
      have B1 := hid (HB.out.below' hb)
      clear hb
      go_wp2_with fail
      refine (wide_any A2 n2 cap2 m f2 _ (HL2.out.below K1.out)).mono ?_
      rintro e w' ⟨rfl, rfl⟩
      rw [HW.out]
      clear h3'
      have c0 := B1.out.cell 0
      have c1 := B1.out.cell 1
      simp only [List.getElem?_toArray, List.getElem?_cons_zero, List.getElem?_cons_succ] at c0 c1
      go_wp2_with fail
      refine (HDO.out _).mono ?_
      rintro e w2 ⟨rfl, hb⟩
      have K2 := hid (btr K1.out hb K1.out.size)
      have B2 := hid (B1.out.below' hb)
      clear hb c0 c1
      have c0 := B2.out.cell 0
      have c1 := B2.out.cell 1
      simp only [List.getElem?_toArray, List.getElem?_cons_zero, List.getElem?_cons_succ] at c0 c1
      go_wp2_with fail
      refine (edits_ok s t p c _ HV.out.1 HV.out.2.1 HV.out.2.2).mono ?_
      rintro e w3 ⟨A3, cap3, rfl, hv, hb⟩
      have K3 := hid (btr K2.out hb K2.out.size)
      have B3 := hid (B2.out.below' hb)
      have V3 := hid hv
      clear hb hv c0 c1
      have c0 := B3.out.cell 0
      have c1 := B3.out.cell 1
      simp only [List.getElem?_toArray, List.getElem?_cons_zero, List.getElem?_cons_succ] at c0 c1
      go_wp2_with fail
      refine (far_ok s t p c _ HV.out.1 HV.out.2.1 HV.out.2.2).mono ?_
      rintro e w4 ⟨A4, cap4, rfl, hv, hb⟩
      have K4 := hid (btr K3.out hb K3.out.size)
      have B4 := hid (B3.out.below' hb)
      have V4 := hid (V3.out.below hb)
      have T4 := hid hv
      clear hb hv c0 c1
      go_wp2_with fail
      refine (are_any s t A3 _ cap3 _ _ HS.out HT.out V4.out).mono ?_
      rintro e w5 ⟨rfl, hb⟩
      rw [HZ.out, HIE.out]
      have K5 := hid (btr K4.out hb K4.out.size)
      have B5 := hid (B4.out.below' hb)
      have V5 := hid (V4.out.below hb)
      have T5 := hid (T4.out.below hb)
      clear hb
      have c0 := B5.out.cell 0
      have c1 := B5.out.cell 1
      simp only [List.getElem?_toArray, List.getElem?_cons_zero, List.getElem?_cons_succ] at c0 c1
      go_wp2_with fail
      refine (costOf_any s t A3 _ cap3 _ (p : Int) (c : Int) _ HS.out HT.out V5.out).mono ?_
      rintro e w6 ⟨rfl, hb⟩
      rw [HCE.out]
      have K6 := hid (btr K5.out hb K5.out.size)
      have B6 := hid (B5.out.below' hb)
      have T6 := hid (T5.out.below hb)
      clear hb c0 c1
      have c0 := B6.out.cell 0
      have c1 := B6.out.cell 1
      simp only [List.getElem?_toArray, List.getElem?_cons_zero, List.getElem?_cons_succ] at c0 c1
      go_wp2_with fail
      refine (proves_any s t A4 _ cap4 _ _ (p : Int) (c : Int) _ _ HS.out HT.out T6.out).mono ?_
      rintro e w7 ⟨rfl, hb⟩
      rw [HF1.out]
      have K7 := hid (btr K6.out hb K6.out.size)
      have B7 := hid (B6.out.below' hb)
      have T7 := hid (T6.out.below hb)
      clear hb c0 c1
      have c0 := B7.out.cell 0
      have c1 := B7.out.cell 1
      simp only [List.getElem?_toArray, List.getElem?_cons_zero, List.getElem?_cons_succ] at c0 c1
      go_wp2_with fail
      refine (proves_any s t A4 _ cap4 _ _ (p : Int) (c : Int) _ _ HS.out HT.out T7.out).mono ?_
      rintro e w8 ⟨rfl, hb⟩
      rw [HF2.out]
      have K8 := hid (btr K7.out hb K7.out.size)
      have B8 := hid (B7.out.below' hb)
      clear hb c0 c1
      have c0 := B8.out.cell 0
      have c1 := B8.out.cell 1
      simp only [List.getElem?_toArray, List.getElem?_cons_zero, List.getElem?_cons_succ] at c0 c1
      go_wp2_with fail
      refine (proves_any s t A2 n2 cap2 m f2 (p : Int) (c : Int) _ _ HS.out HT.out (HL2.out.below K8.out)).mono ?_
      rintro e w9 ⟨rfl, hb⟩
      have K9 := hid (btr K8.out hb K8.out.size)
      have B9 := hid (B8.out.below' hb)
      clear hb c0 c1
      obtain ⟨n1, n3⟩ := HNO.out
      have n1' : (provV s t (p : Int) (c : Int) n2 m f2 ((D : Nat) + 1)).1 = false := by
        cases h : (provV s t (p : Int) (c : Int) n2 m f2 ((D : Nat) + 1)).1
        · rfl
        · have := n1 h; omega
      rw [n1']
      obtain ⟨cd, hcd⟩ : ∃ cd, (provV s t (p : Int) (c : Int) n2 m f2 ((D : Nat) + 1)).2 = cd := ⟨_, rfl⟩
      rw [hcd] at n3 ⊢
      clear n1 n1' hcd HNO
      have c0 := B9.out.cell 0
      have c1 := B9.out.cell 1
      simp only [List.getElem?_toArray, List.getElem?_cons_zero, List.getElem?_cons_succ] at c0 c1
      go_wp2_with fail
      refine (costOf_any s t A n cap f (p : Int) (c : Int) _ HS.out HT.out (HL.out.below K9.out)).mono ?_
      rintro e w10 ⟨rfl, hb⟩
      have K10 := hid (btr K9.out hb K9.out.size)
      clear hb c0 c1
      rcases HCG.out with hc | ⟨y, hc, hy⟩
      · rw [hc]
        clear hc HCG
        rcases n3 with rfl | rfl
        · go_wp2_with (go_at_call 20; refine (awake_any _).mono ?_; rintro e w11 ⟨rfl, hb⟩)
          go_ret
          exact ⟨rfl, btr K10.out hb K10.out.size⟩
        · go_wp2_with (go_at_call 20; refine (awake_any _).mono ?_; rintro e w11 ⟨rfl, hb⟩)
          go_ret
          exact ⟨rfl, btr K10.out hb K10.out.size⟩
      · rw [hc]
        clear hc HCG
        have hy2 : (D : Int) ≤ (y : Int) := by omega
        rcases n3 with rfl | rfl
        · go_wp2_with (go_at_call 20; refine (awake_any _).mono ?_; rintro e w11 ⟨rfl, hb⟩)
          go_ret
          exact ⟨rfl, btr K10.out hb K10.out.size⟩
        · go_wp2_with (go_at_call 20; refine (awake_any _).mono ?_; rintro e w11 ⟨rfl, hb⟩)
          go_ret
          exact ⟨rfl, btr K10.out hb K10.out.size⟩
end Go.Proofs.YtmhlgnhfbickdaaDoor
