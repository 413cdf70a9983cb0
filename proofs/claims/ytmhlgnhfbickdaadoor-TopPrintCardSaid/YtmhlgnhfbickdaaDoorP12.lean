/-
  The walk of the law PrintTriangles. Conditions: none but that the prints' lengths are int's.
-/
import Derived.Test.YtmhlgnhfbickdaaDoorP11
namespace Go.Proofs.YtmhlgnhfbickdaaDoor
set_option linter.unusedVariables false
set_option linter.unusedSimpArgs false
open Go.RowKit Go.Shelf

theorem toList_eq (s : ByteArray) : s.toList = s.data.toList := by cases s; exact toList_data' _
theorem wrap_in {x : Int} (h1 : -9223372036854775808 ≤ x) (h2 : x ≤ 9223372036854775807) : wrap64 x = x := by unfold wrap64; omega
theorem tri_lo {p d : Nat} {a b : Nat} (hp : p ≤ 9) (ha : a ≤ 20) (hb : b ≤ 20) (h1 : p * (a - b) ≤ d) (h2 : p * (b - a) ≤ d) : wrap64 ((p : Int) * max ((a : Int) - (b : Int)) ((b : Int) - (a : Int))) ≤ (d : Int) := by
  have key : ∀ m : Nat, m ≤ 20 → p * m ≤ d → wrap64 ((p : Int) * (m : Int)) ≤ (d : Int) := by
    intro m hm h
    have h3 : p * m ≤ 9 * 20 := Nat.mul_le_mul hp hm
    rw [← Int.natCast_mul, wrap_in (by omega) (by omega)]
    omega
  rcases Nat.le_total a b with h | h
  · rw [Int.max_eq_right (by omega), show (b : Int) - (a : Int) = ((b - a : Nat) : Int) by omega]
    exact key _ (by omega) h2
  · rw [Int.max_eq_left (by omega), show (a : Int) - (b : Int) = ((a - b : Nat) : Int) by omega]
    exact key _ (by omega) h1
theorem tri_hi {p d : Nat} {a b : Nat} (hp : p ≤ 9) (ha : a ≤ 20) (hb : b ≤ 20) (h1 : d ≤ p * (a + b)) : (d : Int) ≤ wrap64 ((p : Int) * ((a : Int) + (b : Int))) := by
  have h3 : p * (a + b) ≤ 9 * 40 := Nat.mul_le_mul hp (by omega)
  rw [show (a : Int) + (b : Int) = ((a + b : Nat) : Int) by omega, ← Int.natCast_mul, wrap_in (by omega) (by omega)]
  omega
def three (s t u : ByteArray) (i : Nat) : ByteArray := if i = 0 then s else if i = 1 then t else u
set_option maxRecDepth 100000 in
set_option maxHeartbeats 2000000 in
theorem printTriangles_walk (s t u : ByteArray) (p c : Int) (w : World) (hs : s.size ≤ 9223372036854775807) (ht : t.size ≤ 9223372036854775807) (hu : u.size ≤ 9223372036854775807) :
    Calls Tryd.prog 4 #[.string s, .string t, .string u, .agg #[.int .i64 p, .int .i64 c]] w fun e w' => e = .returned (.bool true) ∧ Below w.heap.size w w' := by
  have hb0 := hid (((box_bel w (.cells #[.int .i64 p, .int .i64 c] 24))).trans ((box_bel _ (.cells #[.string s, .string t, .string u] 9)).mono (by simp)))
  have HB := hid ((Blk.new w 24 #[.int .i64 p, .int .i64 c]).alloc (.cells #[.string s, .string t, .string u] 9))
  have HS := hid (Blk.new (w.alloc (.cells #[.int .i64 p, .int .i64 c] 24)) 9 #[.string s, .string t, .string u])
  have hss : Hid (StrsAt ((w.alloc (.cells #[.int .i64 p, .int .i64 c] 24)).alloc (.cells #[.string s, .string t, .string u] 9)) (some ⟨w.heap.size + 1, 0, none⟩) 3 (three s t u)) := hid (by
    refine ⟨by omega, w.heap.size + 1, 0, fun _ => by simp, fun _ => rfl, fun i hi => ?_⟩
    have h := HS.out
    rw [show (w.alloc (.cells #[.int .i64 p, .int .i64 c] 24)).heap.size = w.heap.size + 1 by simp] at h
    have e : i = 0 ∨ i = 1 ∨ i = 2 := by omega
    rcases e with rfl | rfl | rfl
    · exact ⟨h.cell 0, hs⟩
    · exact ⟨h.cell 1, ht⟩
    · exact ⟨h.cell 2, hu⟩)
  cases hask : askB 3 (three s t u) p c
  · have HA := hid hask
    clear hask hs ht hu
    go_enter Tryd.func4, Tryd.ntmps4
    go_wp2_with fail
    refine (lawAsked_any _ _ _ (three s t u) p c _ hss.out).mono ?_
    rintro e w1 ⟨rfl, hb1⟩
    rw [HA.out]
    have K1 := hid (btr hb0.out hb1 hb0.out.size)
    clear hb1
    go_wp2_with (go_at_call 20; refine (awake_any _).mono ?_; rintro e w2 ⟨rfl, hb2⟩)
    go_ret
    exact ⟨rfl, btr K1.out hb2 K1.out.size⟩
  · obtain ⟨hv, hc⟩ := askB_true hask
    have v1 := hv 0 (by omega)
    have v2 := hv 1 (by omega)
    have v3 := hv 2 (by omega)
    change valB s = true at v1
    change valB t = true at v2
    change valB u = true at v3
    have hr := vcB_true.1 hc
    obtain ⟨p, rfl⟩ : ∃ p' : Nat, p = (p' : Int) := ⟨p.toNat, by omega⟩
    obtain ⟨c, rfl⟩ : ∃ c' : Nat, c = (c' : Int) := ⟨c.toNat, by omega⟩
    have s1 := (valB_true.1 v1).1
    have s2 := (valB_true.1 v2).1
    have D1 := hid fun wx => dist_ok s t p c wx v1 v2 hc
    have D2 := hid fun wx => dist_ok t u p c wx v2 v3 hc
    have D3 := hid fun wx => dist_ok s u p c wx v1 v3 hc
    have D4 := hid fun wx => dist_ok t s p c wx v2 v1 hc
    have e4 : dst p c t.data.toList s.data.toList = dst p c s.data.toList t.data.toList := dst_comm _ _
    have htri := dst_triangle (p := p) (c := c) s.data.toList t.data.toList u.data.toList
    have hlo := dst_lo (p := p) (c := c) s.data.toList t.data.toList
    have hlo2 := dst_lo (p := p) (c := c) t.data.toList s.data.toList
    have hhi := dst_hi (p := p) (c := c) s.data.toList t.data.toList
    have hz := dst_zero (p := p) (c := c) (by omega) (by omega) s.data.toList t.data.toList
    have l1 : s.data.toList.length = s.size := by simp
    have l2 : t.data.toList.length = t.size := by simp
    rw [l1, l2] at hlo hhi hlo2
    rw [e4] at D4 hlo2
    have HA := hid hask
    have HD2 : dst p c t.data.toList u.data.toList ≤ 360 := Nat.le_trans (dst_hi (p := p) (c := c) t.data.toList u.data.toList) (by
      have l3 : u.data.toList.length = u.size := by simp
      rw [l2, l3]
      have s3 := (valB_true.1 v3).1
      exact Nat.le_trans (Nat.mul_le_mul (show p ≤ 9 by omega) (show t.size + u.size ≤ 40 by omega)) (by omega))
    generalize dst p c s.data.toList t.data.toList = d1 at D1 D4 htri hlo hlo2 hhi hz
    generalize dst p c t.data.toList u.data.toList = d2 at D2 htri HD2
    generalize dst p c s.data.toList u.data.toList = d3 at D3 htri
    have HT := hid htri
    have HL := hid hlo
    have HL2 := hid hlo2
    have HH := hid hhi
    have HZ := hid hz
    clear hask hs ht hu hv hc v1 v2 v3 e4 htri hlo hlo2 hhi hz l1 l2
    go_enter Tryd.func4, Tryd.ntmps4
    go_wp2_with fail
    refine (lawAsked_any _ _ _ (three s t u) _ _ _ hss.out).mono ?_
    rintro e w1 ⟨rfl, hb1⟩
    rw [HA.out]
    have K1 := hid (btr hb0.out hb1 hb0.out.size)
    have B1 := hid (HB.out.below' hb1)
    have c0 := B1.out.cell 0
    have c1 := B1.out.cell 1
    simp only [List.getElem?_toArray, List.getElem?_cons_zero, List.getElem?_cons_succ] at c0 c1
    clear hb1
    go_wp2_with fail
    refine (D1.out _).mono ?_
    rintro e w2 ⟨rfl, hb1⟩
    have K2 := hid (btr K1.out hb1 K1.out.size)
    have B2 := hid (B1.out.below' hb1)
    have c0 := B2.out.cell 0
    have c1 := B2.out.cell 1
    simp only [List.getElem?_toArray, List.getElem?_cons_zero, List.getElem?_cons_succ] at c0 c1
    clear hb1
    go_wp2_with fail
    refine (D2.out _).mono ?_
    rintro e w3 ⟨rfl, hb1⟩
    have K3 := hid (btr K2.out hb1 K2.out.size)
    have B3 := hid (B2.out.below' hb1)
    have c0 := B3.out.cell 0
    have c1 := B3.out.cell 1
    simp only [List.getElem?_toArray, List.getElem?_cons_zero, List.getElem?_cons_succ] at c0 c1
    clear hb1
    go_wp2_with fail
    refine (D3.out _).mono ?_
    rintro e w4 ⟨rfl, hb1⟩
    have K4 := hid (btr K3.out hb1 K3.out.size)
    have B4 := hid (B3.out.below' hb1)
    have c0 := B4.out.cell 0
    have c1 := B4.out.cell 1
    simp only [List.getElem?_toArray, List.getElem?_cons_zero, List.getElem?_cons_succ] at c0 c1
    clear hb1
    go_wp2_with fail
    refine (D4.out _).mono ?_
    rintro e w5 ⟨rfl, hb1⟩
    have K5 := hid (btr K4.out hb1 K4.out.size)
    have B5 := hid (B4.out.below' hb1)
    have c0 := B5.out.cell 0
    have c1 := B5.out.cell 1
    simp only [List.getElem?_toArray, List.getElem?_cons_zero, List.getElem?_cons_succ] at c0 c1
    have hd1 : d1 ≤ 360 := Nat.le_trans HH.out (Nat.le_trans (Nat.mul_le_mul (show p ≤ 9 by omega) (show s.size + t.size ≤ 40 by omega)) (by omega))
    have hd2 : d2 ≤ 360 := HD2
    have e1 : ((d1 : Int) == 0) = (s.toList == t.toList) := by
      rw [Bool.eq_iff_iff, beq_iff_eq, beq_iff_eq, toList_eq, toList_eq, ← HZ.out]
      omega
    have e3 : (d3 : Int) ≤ (d1 : Int) + (d2 : Int) := by have := HT.out; omega
    have e4 : wrap64 ((p : Int) * max ((s.size : Int) - (t.size : Int)) ((t.size : Int) - (s.size : Int))) ≤ (d1 : Int) := tri_lo (by omega) s1 s2 HL.out HL2.out
    have e5 : (d1 : Int) ≤ wrap64 ((p : Int) * ((s.size : Int) + (t.size : Int))) := tri_hi (by omega) s1 s2 HH.out
    clear hb1 HT HL HL2 HH HZ D1 D2 D3 D4 HB HS hss B1 B2 B3 B4 K1 K2 K3 K4
    go_wp2_with (go_at_call 20; refine (awake_any _).mono ?_; rintro e w6 ⟨rfl, hb6⟩)
    go_ret
    exact ⟨rfl, btr K5.out hb6 K5.out.size⟩
end Go.Proofs.YtmhlgnhfbickdaaDoor
