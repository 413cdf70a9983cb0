/-
  The walk of the law PrintBacks. Conditions: none but that the prints' lengths are int's, and that the list lies in memory.
-/
import Derived.Test.YtmhlgnhfbickdaaDoorP12
import Derived.Test.YtmhlgnhfbickdaaDoorP20
namespace Go.Proofs.YtmhlgnhfbickdaaDoor
set_option linter.unusedVariables false
set_option linter.unusedSimpArgs false
open Go.RowKit Go.Shelf

def two (s t : ByteArray) (i : Nat) : ByteArray := if i = 0 then s else t
theorem two_at (w : World) (s t : ByteArray) (o : Obj) (hs : s.size ≤ 9223372036854775807) (ht : t.size ≤ 9223372036854775807) :
    StrsAt ((w.alloc o).alloc (.cells #[.string s, .string t] 9)) (some ⟨w.heap.size + 1, 0, none⟩) 2 (two s t) := by
  refine ⟨by omega, w.heap.size + 1, 0, fun _ => by simp, fun _ => rfl, fun i hi => ?_⟩
  have h := Blk.new (w.alloc o) 9 #[.string s, .string t]
  rw [show (w.alloc o).heap.size = w.heap.size + 1 by simp] at h
  have e : i = 0 ∨ i = 1 := by omega
  rcases e with rfl | rfl
  · exact ⟨h.cell 0, hs⟩
  · exact ⟨h.cell 1, ht⟩
theorem ask2 {s t : ByteArray} {p c : Int} (h : askB 2 (two s t) p c = true) : valB s = true ∧ valB t = true ∧ vcB p c = true := by
  obtain ⟨hv, hc⟩ := askB_true h
  exact ⟨hv 0 (by omega), hv 1 (by omega), hc⟩
theorem codeV_ok {s t : ByteArray} (h1 : valB s = true) (h2 : valB t = true) : codeV s t = 0 := by unfold codeV; rw [h1, h2]; rfl

/-! ### the edits back, plainly -/
def bkF (n : Nat) (f : Nat → Int) : Nat → Int := fun i => (bkL n f).getD i 0
theorem bkF_list (n : Nat) (f : Nat → Int) : (List.range n).map (bkF n f) = ((List.range n).map f).map bkE := by
  rw [List.map_map]
  refine List.map_congr_left fun i hi => ?_
  have := List.mem_range.1 hi
  simp [bkF, bkL, this]
theorem bkL_bk (n : Nat) (f : Nat → Int) : bkL n (bkF n f) = (List.range n).map f := by
  unfold bkL
  refine List.map_congr_left fun i hi => ?_
  have h := List.mem_range.1 hi
  simp [bkF, bkL, h, bkE_bkE]
theorem cstO_bk (s t : ByteArray) (p c n : Nat) (f : Nat → Int) : cstO t s p c n (bkF n f) = cstO s t p c n f := by
  unfold cstO cstAt
  rw [bkF_list, cst_bk]
theorem isE_bk (s t : ByteArray) (n : Nat) (f : Nat → Int) : isE t s n (bkF n f) = isE s t n f := by unfold isE; rw [cstO_bk]
theorem ints_at {w : World} {A : Option Addr} {m cap n : Nat} {f : Nat → Int} (h : IntsV w (.slice A m cap) (bkL n f)) : m = n ∧ HoursAt w A n (bkF n f) := by
  obtain ⟨A', cap', he, hh⟩ := h
  rw [bkL_len] at he hh
  simp only [Value.slice.injEq] at he
  obtain ⟨rfl, rfl, rfl⟩ := he
  exact ⟨rfl, hh⟩

set_option maxRecDepth 100000 in
set_option maxHeartbeats 4000000 in
theorem printBacks_walk (s t : ByteArray) (A : Option Addr) (n cap : Nat) (f : Nat → Int) (p c : Int) (w : World) (hs : s.size ≤ 9223372036854775807) (ht : t.size ≤ 9223372036854775807) (hl : HoursAt w A n f) :
    Calls Tryd.prog 13 #[.string s, .string t, .slice A n cap, .agg #[.int .i64 p, .int .i64 c]] w fun e w' => e = .returned (.bool true) ∧ Below w.heap.size w w' := by
  have hb0 := hid (((box_bel w (.cells #[.int .i64 p, .int .i64 c] 24))).trans ((box_bel _ (.cells #[.string s, .string t] 9)).mono (by simp)))
  have HB := hid ((Blk.new w 24 #[.int .i64 p, .int .i64 c]).alloc (.cells #[.string s, .string t] 9))
  have HSS := hid (two_at w s t (.cells #[.int .i64 p, .int .i64 c] 24) hs ht)
  have HL := hid hl
  clear hl
  cases hask : askB 2 (two s t) p c
  · have HA := hid hask
    clear hask hs ht
    go_enter Tryd.func13, Tryd.ntmps13
    go_wp2_with fail
    refine (lawAsked_any _ _ _ (two s t) p c _ HSS.out).mono ?_
    rintro e w1 ⟨rfl, hb1⟩
    rw [HA.out]
    have K1 := hid (btr hb0.out hb1 hb0.out.size)
    clear hb1
    go_wp2_with (go_at_call 20; refine (awake_any _).mono ?_; rintro e w2 ⟨rfl, hb2⟩)
    go_ret
    exact ⟨rfl, btr K1.out hb2 K1.out.size⟩
  · obtain ⟨v1, v2, v3⟩ := ask2 hask
    have HA := hid hask
    have hr := vcB_true.1 v3
    have HZ := hid (codeV_ok v1 v2)
    have HZ' := hid (codeV_ok v2 v1)
    have HP := hid (codeP_ok v1 v2 v3)
    have HP' := hid (codeP_ok v2 v1 v3)
    have HS := hid hs
    have HT := hid ht
    clear hask v1 v2 v3 hs ht
    by_cases h3 : (200 : Int) < (n : Int)
    · go_enter Tryd.func13, Tryd.ntmps13
      go_wp2_with fail
      refine (lawAsked_any _ _ _ (two s t) p c _ HSS.out).mono ?_
      rintro e w1 ⟨rfl, hb1⟩
      rw [HA.out]
      have K1 := hid (btr hb0.out hb1 hb0.out.size)
      clear hb1
      go_wp2_with (go_at_call 20; refine (awake_any _).mono ?_; rintro e w2 ⟨rfl, hb2⟩)
      go_ret
      exact ⟨rfl, btr K1.out hb2 K1.out.size⟩
    · have HBK := hid fun wx (hbx : Below w.heap.size w wx) => back_any s t A n cap f wx HS.out HT.out (HL.out.below hbx)
      have HAR := hid fun wx (hbx : Below w.heap.size w wx) => are_any s t A n cap f wx HS.out HT.out (HL.out.below hbx)
      go_enter Tryd.func13, Tryd.ntmps13
      go_wp2_with fail
      refine (lawAsked_any _ _ _ (two s t) p c _ HSS.out).mono ?_
      rintro e w1 ⟨rfl, hb⟩
      rw [HA.out]
      have K1 := hid (btr hb0.out hb hb0.out.size)
      have B1 := hid (HB.out.below' hb)
      clear hb
      cases hE : isE s t n f
      · have HV := hid (backV_no HZ.out hE)
        have HE := hid hE
        clear hE
        go_wp2_with fail
        refine (HBK.out _ K1.out).mono ?_
        rintro e w2 ⟨A2, n2, cap2, rfl, hv, hb⟩
        rw [HV.out] at hv ⊢
        obtain ⟨A3, cap3, h4, _⟩ := hv
        simp only [Value.slice.injEq, List.length_nil] at h4
        obtain ⟨rfl, rfl, rfl⟩ := h4
        have K2 := hid (btr K1.out hb K1.out.size)
        clear hb
        go_wp2_with fail
        refine (HAR.out _ K2.out).mono ?_
        rintro e w3 ⟨rfl, hb⟩
        rw [HZ.out, HE.out]
        have K3 := hid (btr K2.out hb K2.out.size)
        clear hb
        go_wp2_with (go_at_call 20; refine (awake_any _).mono ?_; rintro e w4 ⟨rfl, hb4⟩)
        go_ret
        exact ⟨rfl, btr K3.out hb4 K3.out.size⟩
      · have HV := hid (backV_yes HZ.out hE)
        have HV' := hid (backV_yes HZ'.out ((isE_bk s t n f).trans hE))
        have HE := hid hE
        obtain ⟨p', rfl⟩ : ∃ p' : Nat, p = (p' : Int) := ⟨p.toNat, by omega⟩
        obtain ⟨c', rfl⟩ : ∃ c' : Nat, c = (c' : Int) := ⟨c.toNat, by omega⟩
        obtain ⟨x, hx⟩ : ∃ x, cstO s t p' c' n f = some x := Option.isSome_iff_exists.1 ((isE_any s t p' c' n f).trans hE)
        have HC := hid (costV_some HP.out hx)
        have HC' := hid (costV_some HP'.out ((cstO_bk s t p' c' n f).trans hx))
        clear hE hx
        go_wp2_with fail
        refine (HBK.out _ K1.out).mono ?_
        rintro e w2 ⟨A2, n2, cap2, rfl, hv, hb⟩
        rw [HV.out] at hv ⊢
        obtain ⟨rfl, hh⟩ := ints_at hv
        have K2 := hid (btr K1.out hb K1.out.size)
        have B2 := hid (B1.out.below' hb)
        have HH := hid hh
        clear hb hv hh
        go_wp2_with fail
        refine (HAR.out _ K2.out).mono ?_
        rintro e w3 ⟨rfl, hb⟩
        rw [HZ.out, HE.out]
        have K3 := hid (btr K2.out hb K2.out.size)
        have B3 := hid (B2.out.below' hb)
        have HH3 := hid (HH.out.below hb)
        clear hb HH
        go_wp2_with fail
        refine (back_any t s A2 n2 cap2 (bkF n2 f) _ HT.out HS.out HH3.out).mono ?_
        rintro e w4 ⟨A4, n4, cap4, rfl, hv, hb⟩
        rw [HV'.out] at hv ⊢
        rw [bkL_bk] at hv
        have K4 := hid (btr K3.out hb K3.out.size)
        have B4 := hid (B3.out.below' hb)
        have HH4 := hid (HH3.out.below hb)
        have V4 := hid hv
        have c0 := B4.out.cell 0
        have c1 := B4.out.cell 1
        simp only [List.getElem?_toArray, List.getElem?_cons_zero, List.getElem?_cons_succ] at c0 c1
        clear hb hv
        go_wp2_with fail
        refine (costOf_any s t A n2 cap f (p' : Int) (c' : Int) _ HS.out HT.out (HL.out.below K4.out)).mono ?_
        rintro e w5 ⟨rfl, hb⟩
        rw [HC.out]
        have K5 := hid (btr K4.out hb K4.out.size)
        have B5 := hid (B4.out.below' hb)
        have HH5 := hid (HH4.out.below hb)
        have V5 := hid (V4.out.below hb)
        clear c0 c1
        have c0 := B5.out.cell 0
        have c1 := B5.out.cell 1
        simp only [List.getElem?_toArray, List.getElem?_cons_zero, List.getElem?_cons_succ] at c0 c1
        clear hb
        go_wp2_with fail
        refine (costOf_any t s A2 n2 cap2 (bkF n2 f) (p' : Int) (c' : Int) _ HT.out HS.out HH5.out).mono ?_
        rintro e w6 ⟨rfl, hb⟩
        rw [HC'.out]
        have K6 := hid (btr K5.out hb K5.out.size)
        have V6 := hid (V5.out.below hb)
        clear hb c0 c1
        go_wp2_with fail
        refine (sameL_any _ _ _ _ _ V6.out (IntsV.of_hours (HL.out.below K6.out))).mono ?_
        rintro e w7 ⟨rfl, hb⟩
        rw [decide_eq_true rfl]
        have K7 := hid (btr K6.out hb K6.out.size)
        clear hb
        go_wp2_with (go_at_call 20; refine (awake_any _).mono ?_; rintro e w8 ⟨rfl, hb8⟩)
        go_ret
        exact ⟨rfl, btr K7.out hb8 K7.out.size⟩
end Go.Proofs.YtmhlgnhfbickdaaDoor
