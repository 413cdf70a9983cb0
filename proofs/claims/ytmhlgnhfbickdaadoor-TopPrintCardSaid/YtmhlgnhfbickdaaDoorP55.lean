/-
  What is proved of two prints: the law's own function. Conditions: the prints and the costs are valid.
-/
import Derived.Test.YtmhlgnhfbickdaaDoorP37
import Derived.Test.YtmhlgnhfbickdaaDoorP41
namespace Go.Proofs.YtmhlgnhfbickdaaDoor
set_option linter.unusedVariables false
set_option linter.unusedSimpArgs false
open Go.RowKit Go.Shelf

set_option maxRecDepth 100000 in
set_option maxHeartbeats 4000000 in
/-- skimmertop.proved -/
theorem proved_any (s t : ByteArray) (p c : Nat) (w : World) (v1 : valB s = true) (v2 : valB t = true) (v3 : vcB (p : Int) (c : Int) = true) :
    Calls Tryd.prog 22 #[.string s, .string t, .agg #[.int .i64 (p : Int), .int .i64 (c : Int)]] w fun e w' => e = .returned (.tuple #[.int .i64 (dst p c s.data.toList t.data.toList : Nat), .bool true]) ∧ Below w.heap.size w w' := by
  have hb0 := hid (box_bel w (.cells #[.int .i64 (p : Int), .int .i64 (c : Int)] 24))
  have HB := hid (Blk.new w 24 #[.int .i64 (p : Int), .int .i64 (c : Int)])
  have hr := vcB_true.1 v3
  have s1 := (valB_true.1 v1).1
  have s2 := (valB_true.1 v2).1
  have HZ := hid (codeV_ok v1 v2)
  have HP := hid (codeP_ok v1 v2 v3)
  have HP' := hid (codeP_ok v2 v1 v3)
  have HV := hid (And.intro v1 (And.intro v2 v3))
  have HS : Hid (s.size ≤ 9223372036854775807) := hid (by omega)
  have HT : Hid (t.size ≤ 9223372036854775807) := hid (by omega)
  have hD := dst_360 (c := c) v1 v2 (p := p) (by omega)
  have HIE := hid (ed_isE (s := s) (t := t) p c s1 s2)
  have HBV := hid (backV_yes HZ.out HIE.out)
  have HCE := hid (costV_some HP.out (ed_some (s := s) (t := t) p c s1 s2))
  have HCB := hid (costV_some HP'.out ((cstO_bk s t p c _ _).trans (ed_some (s := s) (t := t) p c s1 s2)))
  have HF1 := hid (provV_far (s := s) (t := t) (p := p) (c := c) (x := (dst p c s.data.toList t.data.toList : Nat)) HP.out s1 s2 (by omega) (by omega) (by omega))
  have HF2 := hid (provV_far (s := s) (t := t) (p := p) (c := c) (x := (dst p c s.data.toList t.data.toList : Nat) + 1) HP.out s1 s2 (by omega) (by omega) (by omega))
  rw [decide_eq_true (Int.le_refl _)] at HF1
  rw [decide_eq_false (by omega)] at HF2
  have HDO := hid fun wx => dist_ok s t p c wx v1 v2 v3
  obtain ⟨D, hDD⟩ : ∃ D, dst p c s.data.toList t.data.toList = D := ⟨_, rfl⟩
  rw [hDD] at hD HCE HF1 HF2 HCB HDO ⊢
  clear v1 v2 v3 s1 s2 hDD hr
  have c0 := HB.out.cell 0
  have c1 := HB.out.cell 1
  simp only [List.getElem?_toArray, List.getElem?_cons_zero, List.getElem?_cons_succ] at c0 c1
  go_enter Tryd.func22, Tryd.ntmps22
  go_wp2_with fail
  refine (HDO.out _).mono ?_
  rintro e w2 ⟨rfl, hb⟩
  have K2 := hid (btr hb0.out hb hb0.out.size)
  have B2 := hid (HB.out.below' hb)
  clear hb c0 c1
  have c0 := B2.out.cell 0
  have c1 := B2.out.cell 1
  simp only [List.getElem?_toArray, List.getElem?_cons_zero, List.getElem?_cons_succ] at c0 c1
  go_wp2_with fail
  refine (edits_ok s t p c _ HV.out.1 HV.out.2.1 HV.out.2.2).mono ?_
  rintro e w3 ⟨A3, cap3, rfl, hv, hb⟩
  have K3 := hid (btr K2.out hb K2.out.size)
  have B3 := hid (B2.out.below' hb)
  have V3 := hid hv
  clear hb hv c0 c1
  have c0 := B3.out.cell 0
  have c1 := B3.out.cell 1
  simp only [List.getElem?_toArray, List.getElem?_cons_zero, List.getElem?_cons_succ] at c0 c1
  go_wp2_with fail
  refine (far_ok s t p c _ HV.out.1 HV.out.2.1 HV.out.2.2).mono ?_
  rintro e w4 ⟨A4, cap4, rfl, hv, hb⟩
  have K4 := hid (btr K3.out hb K3.out.size)
  have B4 := hid (B3.out.below' hb)
  have V4 := hid (V3.out.below hb)
  have T4 := hid hv
  clear hb hv c0 c1
  go_wp2_with fail
  refine (back_any s t A3 _ cap3 _ _ HS.out HT.out V4.out).mono ?_
  rintro e w5 ⟨A5, n5, cap5, rfl, hv, hb⟩
  rw [HBV.out] at hv ⊢
  obtain ⟨rfl, hh⟩ := ints_at hv
  have K5 := hid (btr K4.out hb K4.out.size)
  have B5 := hid (B4.out.below' hb)
  have V5 := hid (V4.out.below hb)
  have T5 := hid (T4.out.below hb)
  have H5 := hid hh
  clear hb hv hh
  have c0 := B5.out.cell 0
  have c1 := B5.out.cell 1
  simp only [List.getElem?_toArray, List.getElem?_cons_zero, List.getElem?_cons_succ] at c0 c1
  go_wp2_with fail
  refine (rCostOf_any s t A3 _ cap3 _ (p : Int) (c : Int) _ HS.out HT.out V5.out).mono ?_
  rintro e w6 ⟨rfl, hb⟩
  rw [HCE.out]
  have K6 := hid (btr K5.out hb K5.out.size)
  have B6 := hid (B5.out.below' hb)
  have T6 := hid (T5.out.below hb)
  have H6 := hid (H5.out.below hb)
  clear hb c0 c1
  have c0 := B6.out.cell 0
  have c1 := B6.out.cell 1
  simp only [List.getElem?_toArray, List.getElem?_cons_zero, List.getElem?_cons_succ] at c0 c1
  go_wp2_with fail
  refine (rCostOf_any t s A5 _ cap5 _ (p : Int) (c : Int) _ HT.out HS.out H6.out).mono ?_
  rintro e w7 ⟨rfl, hb⟩
  rw [HCB.out]
  have K7 := hid (btr K6.out hb K6.out.size)
  have B7 := hid (B6.out.below' hb)
  have T7 := hid (T6.out.below hb)
  clear hb c0 c1
  have c0 := B7.out.cell 0
  have c1 := B7.out.cell 1
  simp only [List.getElem?_toArray, List.getElem?_cons_zero, List.getElem?_cons_succ] at c0 c1
  go_wp2_with fail
  refine (rProves_any s t A4 _ cap4 _ _ (p : Int) (c : Int) _ _ HS.out HT.out T7.out).mono ?_
  rintro e w8 ⟨rfl, hb⟩
  rw [HF1.out]
  have K8 := hid (btr K7.out hb K7.out.size)
  have B8 := hid (B7.out.below' hb)
  have T8 := hid (T7.out.below hb)
  clear hb c0 c1
  have c0 := B8.out.cell 0
  have c1 := B8.out.cell 1
  simp only [List.getElem?_toArray, List.getElem?_cons_zero, List.getElem?_cons_succ] at c0 c1
  go_wp2_with fail
  refine (rProves_any s t A4 _ cap4 _ _ (p : Int) (c : Int) _ _ HS.out HT.out T8.out).mono ?_
  rintro e w9 ⟨rfl, hb⟩
  rw [HF2.out]
  have K9 := hid (btr K8.out hb K8.out.size)
  clear hb c0 c1
  go_wp2
  refine bodyPost_ret (v := .tuple #[.int .i64 (D : Int), .bool true]) (by simp [results, Tryd.results22, go_sem]) rfl ⟨rfl, K9.out⟩
end Go.Proofs.YtmhlgnhfbickdaaDoor
