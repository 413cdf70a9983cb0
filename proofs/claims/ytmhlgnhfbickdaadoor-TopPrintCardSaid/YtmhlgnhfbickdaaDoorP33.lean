/-
  Far of the program. Conditions: none but that the prints' lengths are int's.
-/
import Derived.Test.YtmhlgnhfbickdaaDoorP32
namespace Go.Proofs.YtmhlgnhfbickdaaDoor
set_option linter.unusedVariables false
set_option linter.unusedSimpArgs false
open Go.RowKit Go.Shelf

/-- the table of rests of both prints the other way round -/
def LeftT (wr : World) (s t : ByteArray) (p c go : Nat) (g : Nat → Nat) : Prop :=
  Blk wr go 86 (rowsA (s.size + 1) (t.size + 1) 0 g) ∧ ∀ i, i ≤ s.size → Blk wr (g i) 85 (restA (t.size + 1) (val (revB s) (revB t) p c i))
theorem LeftT.below {wr wr' : World} {s t : ByteArray} {p c go : Nat} {g : Nat → Nat} (h : LeftT wr s t p c go g) (hb : Below wr.heap.size wr wr') : LeftT wr' s t p c go g := ⟨h.1.below' hb, fun i hi => (h.2 i hi).below' hb⟩
theorem LeftT.grown {wr wr' : World} {s t : ByteArray} {p c go : Nat} {g : Nat → Nat} {base e size n : Nat} {v : Value} {xs : List Value} {o : Obj} (h : LeftT wr s t p c go g) (hv : wr.ownsRow base e size v n xs) (hg : (wr.alloc o).grownBy wr' v.ownBlock) (h1 : 86 ≠ e) (h2 : 85 ≠ e) : LeftT wr' s t p c go g :=
  ⟨own_type (hv.alloc o) hg (h.1.alloc o) h1, fun i hi => own_type (hv.alloc o) hg ((h.2 i hi).alloc o) h2⟩
theorem LeftT.at_ {wr : World} {s t : ByteArray} {p c go i k : Nat} {g : Nat → Nat} (h : LeftT wr s t p c go g) (hi : i ≤ s.size) (hk : k ≤ t.size) :
    wr.cell? ⟨go, i, none⟩ = some (.slice (some ⟨g i, 0, none⟩) (t.size + 1) (t.size + 1)) ∧ wr.cell? ⟨g i, k * 2, none⟩ = some (.int .i64 ((val (revB s) (revB t) p c i k).1 : Int)) :=
  ⟨(h.1.cell i).trans ((rowsA_get (by omega)).trans (by rw [if_pos (Nat.zero_le _)])), ((h.2 i hi).cell _).trans (restA_get (by omega)).1⟩
theorem far_val (s t : ByteArray) (p c i k : Nat) (hi : i ≤ s.size) (hk : k ≤ t.size) : ((val (revB s) (revB t) p c (s.size - i) (t.size - k)).1 : Int) = farN p c s.data.toList t.data.toList i k := by
  have h := farN_rev (p := p) (c := c) s.data.toList t.data.toList i k (by simpa using hi) (by simpa using hk)
  have l1 : s.data.toList.length = s.size := by simp
  have l2 : t.data.toList.length = t.size := by simp
  rw [l1, l2] at h
  unfold val farN dw
  rw [revB_list, revB_list, h]
set_option maxRecDepth 100000 in
set_option maxHeartbeats 4000000 in
/-- print.Far -/
theorem far_any (s t : ByteArray) (p c : Int) (w : World) (hs : s.size ≤ 9223372036854775807) (ht : t.size ≤ 9223372036854775807) :
    Calls Tryd.prog 40 #[.string s, .string t, .agg #[.int .i64 p, .int .i64 c]] w (FarR w s t p c) := by
  have hb0 := box_bel w (.cells #[.int .i64 p, .int .i64 c] 24)
  obtain ⟨i0, hi0, hz0, hz1, hz2⟩ := info_parts info3
  obtain ⟨j0, hj0, hy0, hy1, hy2⟩ := info_parts info25
  go_enter Tryd.func40, Tryd.ntmps40
  go_wp2_with fail
  refine (newPair_any s t p c _ hs ht).mono ?_
  rintro e w1 ⟨x, y, u, v, rfl, h0, hb⟩
  have hb1 := box_trans _ hb
  clear hb hb0
  by_cases hz : codeP s t p c = 0
  · obtain ⟨rfl, rfl, rfl, rfl⟩ := h0 hz
    have h20 := codeP_zero hz
    have HZ := hid hz
    have HFL : Hid (farL x y u v = x.size + 1) := hid (if_pos hz)
    rw [hz]
    clear hz h0
    obtain ⟨s, rfl⟩ : ∃ s', s' = x := ⟨_, rfl⟩
    obtain ⟨t, rfl⟩ : ∃ s', s' = y := ⟨_, rfl⟩
    obtain ⟨p, rfl⟩ : ∃ p' : Nat, u = (p' : Int) := ⟨u.toNat, by omega⟩
    obtain ⟨c, rfl⟩ : ∃ c' : Nat, v = (c' : Int) := ⟨v.toNat, by omega⟩
    obtain ⟨h20s, h20t, hpp, hcc⟩ := h20
    have HB := hid (btr hb1 (box_bel w1 (.cells #[.string s, .string t, .int .i64 (p : Int), .int .i64 (c : Int)] 72)) hb1.size)
    clear hb1
    go_wp2_with fail
    refine (pturned_any s t (p : Int) (c : Int) _ h20s h20t).mono ?_
    rintro e w2 ⟨rfl, hb2⟩
    have HB2 := hid (btr HB.out hb2 HB.out.size)
    clear hb2
    go_wp2_with fail
    refine (rests_any (revB s) (revB t) p c _ (by rw [revB_size]; exact h20s) (by rw [revB_size]; exact h20t) (by omega) (by omega)).mono ?_
    rintro e w3 ⟨go, g, rfl, hgo, hg, hb3⟩
    rw [revB_size, revB_size] at hgo
    rw [revB_size] at hg
    rw [revB_size] at hg ⊢
    have HL3 : Hid (LeftT w3 s t p c go g) := hid ⟨hgo, hg⟩
    have HB3 := hid (btr HB2.out hb3 HB2.out.size)
    clear hgo hg hb3 HB HB2
    go_wp2
    go_loopw [11, 30] (fun v x wr => ∃ (i : Nat) (rs : List Value), i ≤ s.size + 1 ∧ x = .int .i64 (i : Int) ∧ Hid (TabO w wr (t.size + 1) i (farN p c s.data.toList t.data.toList) v rs) ∧ Hid (LeftT wr s t p c go g)) (fun _ x _ => s.size + 1 - (intOf x).toNat)
    case atStart => exact ⟨0, [], by omega, rfl, hid (TabO.nil HB3.out), HL3⟩
    case round =>
      obtain ⟨i, rs, hi, rfl, HT, HC⟩ := hrel
      clear HB3 HL3
      obtain ⟨wo, rfl⟩ : ∃ wo : World, wo = wr := ⟨_, rfl⟩
      obtain ⟨A, cap, rfl⟩ := own_shape HT.out.own
      by_cases hlt : i < s.size + 1
      · have hlti : (i : Int) < (s.size : Int) + 1 := by omega
        have hi1 : i ≤ s.size := by omega
        have q0 := (HC.out.at_ (i := i) (k := 0) hi1 (Nat.zero_le _)).1
        go_wp2
        clear q0
        go_loopw [13, 38] (fun r y wj => ∃ k : Nat, k ≤ t.size + 1 ∧ y = .int .i64 (k : Int) ∧ Hid (wj.ownsRow wo.heap.size 3 1 r k (rowL k (farN p c s.data.toList t.data.toList i))) ∧ Hid (Below wo.heap.size wo wj)) (fun _ y _ => t.size + 1 - (intOf y).toNat)
        case atStart => exact ⟨0, by omega, rfl, hid (World.ownsRow_nil _ _ _ _), hid (Below.refl _ _)⟩
        case round =>
          obtain ⟨k, hk, rfl, HO, HW⟩ := hrel
          obtain ⟨wj, rfl⟩ : ∃ wj : World, wj = wr := ⟨_, rfl⟩
          obtain ⟨A2, cap2, rfl⟩ := own_shape HO.out
          by_cases hkt : k < t.size + 1
          · have hltk : (k : Int) < (t.size : Int) + 1 := by omega
            have hk1 : k ≤ t.size := by omega
            obtain ⟨x1, x2⟩ := (HC.out.below HW.out).at_ (i := s.size - i) (k := t.size - k) (by omega) (by omega)
            have hfar := far_val s t p c i k hi1 hk1
            obtain ⟨z, hz⟩ : ∃ z, (val (revB s) (revB t) p c (s.size - i) (t.size - k)).1 = z := ⟨_, rfl⟩
            rw [hz] at x2 hfar
            obtain ⟨m, hm⟩ : ∃ m, s.size - i = m := ⟨_, rfl⟩
            obtain ⟨l, hl⟩ : ∃ l, t.size - k = l := ⟨_, rfl⟩
            rw [hm] at x1 x2
            rw [hl] at x2
            have e1 : (s.size : Int) - (i : Int) = (m : Int) := by omega
            have e2 : (t.size : Int) - (k : Int) = (l : Int) := by omega
            have b1 : (m : Int) < (s.size : Int) + 1 := by omega
            have b2 : (l : Int) < (t.size : Int) + 1 := by omega
            have HFR := hid hfar
            have hwjs := HW.out.size
            clear hz hfar hm hl
            go_wp2_with (at_builtin; refine wpList_append_own _ rfl _ _ 25 rfl wo.heap.size 3 i0 (.int .i64 0) 1 8 Tryd.underlying25 hi0 hz0 hz1 hz2 rfl (by decide) _ _ _ rfl (HO.out.alloc _) ⟨wj.heap.size, 0, none⟩ 1 1 [.int .i64 (z : Int)] rfl rfl (cell_one_new _ _ _) (by simp [Value.oneCell']) (by unfold maxLen; omega) (by omega) (by simp; omega) ?_; intro v' w5 hown' hgrow _)
            have hb5 := own_below (HO.out.alloc _) hgrow (HW.out.alloc HW.out.size _) (Nat.le_refl _) (by simp; omega)
            have HE : Hid (w5.ownsRow wo.heap.size 3 1 v' (k + 1) (rowL (k + 1) (farN p c s.data.toList t.data.toList i)) ∧ Below wo.heap.size wo w5) := hid (by
              refine ⟨?_, hb5⟩
              rw [rowL_succ, ← HFR.out]
              exact hown')
            clear hown' hgrow hb5 HO HW x1 x2
            go_wp2
            go_roundw
            case rel => exact ⟨k + 1, by omega, by go_num, hid HE.out.1, hid HE.out.2⟩
            case measure => simp [intOf]; omega
          · obtain rfl : k = t.size + 1 := by omega
            have HT2 := hid (HT.out.next HW.out)
            have HC2 := hid (HC.out.below HW.out)
            have HR2 := hid (own_mono HO.out HT.out.bel.size)
            have hlen := HT.out.len
            clear HO HT HC
            have hws := HT2.out.bel.size
            go_wp2_with (at_builtin; refine wpList_append_own _ rfl _ _ 26 rfl w.heap.size 25 j0 (.slice none 0 0) 1 24 Tryd.underlying26 hj0 hy0 hy1 hy2 rfl (by decide) _ _ _ rfl (HT2.out.own.alloc _) ⟨wj.heap.size, 0, none⟩ 1 1 [.slice A2 (t.size + 1) cap2] rfl rfl (cell_one_new _ _ _) (by simp [Value.oneCell']) (by unfold maxLen; omega) (by omega) (by simp; omega) ?_; intro v' w5 hown' hgrow _)
            have HE := hid (And.intro (HT2.out.push HR2.out hown' hgrow) (HC2.out.grown HT2.out.own hgrow (by decide) (by decide)))
            clear hown' hgrow HT2 HC2 HR2
            go_wp2
            go_roundw
            case rel => exact ⟨i + 1, _, by omega, by go_num, hid HE.out.1, hid HE.out.2⟩
            case measure => simp [intOf]; omega
      · obtain rfl : i = s.size + 1 := by omega
        go_wp2
        refine bodyPost_ret (v := .tuple #[.slice A (s.size + 1) cap, .int .i64 0]) (by simp [results, Tryd.results40, go_sem]) rfl ⟨A, cap, by rw [HFL.out, HZ.out], ?_, HT.out.bel⟩
        rw [HFL.out, Int.toNat_natCast, Int.toNat_natCast]
        exact HT.out.at_ (by omega) (by omega)
  · have HZ := hid hz
    have HFL : Hid (farL s t p c = 0) := hid (if_neg hz)
    have hne : (codeP s t p c != 0) = true := by simpa using hz
    have HB := hid (btr hb1 (box_bel w1 (.cells #[.string x, .string y, .int .i64 u, .int .i64 v] 72)) hb1.size)
    clear hb1 hz h0
    go_wp2
    refine bodyPost_ret (v := .tuple #[.slice none 0 0, .int .i64 (codeP s t p c)]) (by simp [results, Tryd.results40, go_sem]) rfl ⟨none, 0, by rw [HFL.out], ?_, HB.out⟩
    rw [HFL.out]
    exact ⟨by omega, 0, 0, by omega, by omega, by omega⟩
end Go.Proofs.YtmhlgnhfbickdaaDoor
