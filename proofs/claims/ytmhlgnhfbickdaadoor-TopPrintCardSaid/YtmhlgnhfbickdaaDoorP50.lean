/-
  Within: both. Conditions: the prints lie in memory.
-/
import Derived.Test.YtmhlgnhfbickdaaDoorP49
namespace Go.Proofs.YtmhlgnhfbickdaaDoor
set_option linter.unusedVariables false
set_option linter.unusedSimpArgs false
open Go.RowKit Go.Shelf

theorem bF_dsL {n : Nat} (f : Nat → Int) {j : Nat} (hj : j < n) : bF (dsL n f) j = f j := by unfold bF dsL; simp [hj]
theorem near_l (n : Nat) (f : Nat → Int) (most : Int) : nearL n f most = nearL n (bF (dsL n f)) most := nearL_congr fun j hj => (bF_dsL f hj).symm
set_option maxRecDepth 100000 in
set_option maxHeartbeats 4000000 in
/-- skimmerref09.Within -/
theorem rWithinF_any (A : Option Addr) (n cap : Nat) (ss : Nat → ByteArray) (s : ByteArray) (p c most : Int) (w : World) (hss : StrsAt w A n ss) (hs : s.size ≤ 9223372036854775807) :
    Calls Tryd.prog 58 #[.slice A n cap, .string s, .agg #[.int .i64 p, .int .i64 c], .int .i64 most] w (DisR w (disC n ss s p c (btw 0 most 1000)) (nearL n (dsF ss s p c) most)) := by
  have hb0 := hid (box_bel w (.cells #[.int .i64 p, .int .i64 c] 24))
  have HL := hid (hss.below hb0.out)
  have HS := hid hs
  obtain ⟨j0, hj0, hy0, hy1, hy2⟩ := info_parts info3
  clear hss hs
  rw [near_l]
  have HDI := hid fun wx h => compared_any A n cap ss s p c wx h HS.out
  obtain ⟨l, hl⟩ : ∃ l, dsL n (dsF ss s p c) = l := ⟨_, rfl⟩
  have HLN : Hid (l.length = n) := hid (by rw [← hl, dsL_len])
  rw [hl] at HDI ⊢
  clear hl
  go_enter Tryd.func58, Tryd.ntmps58
  go_wp2_with fail
  refine (HDI.out _ HL.out).mono ?_
  rintro e w1 ⟨A1, m, cap1, rfl, hv, hb⟩
  have K1 := hid (btr hb0.out hb hb0.out.size)
  clear hb hb0
  by_cases hz : disC n ss s p c true = 0
  · have hz4 := disC_zero hz
    have hn := (arB_true hz4.1).1
    rw [hz, if_pos rfl] at hv
    rw [hz]
    clear hz
    have hcode : disC n ss s p c (btw 0 most 1000) = if btw 0 most 1000 then 0 else 2 := by unfold disC; rw [hz4.1, hz4.2.1, hz4.2.2.1]; rfl
    cases hbt : btw 0 most 1000
    · have HD : Hid (disC n ss s p c (btw 0 most 1000) = 2) := hid (by rw [hcode, hbt]; rfl)
      have hnb := btw_iff'.1 hbt
      clear hcode hbt hv
      by_cases h0 : most < 0
      · clear hnb
        go_wp2
        refine bodyPost_ret (v := .tuple #[.slice none 0 0, .int .i64 2]) (by simp [results, Tryd.results58, go_sem]) rfl ⟨none, 0, 0, by rw [HD.out], ?_, K1.out⟩
        rw [HD.out]
        exact IntsV.nil _
      · have h1 : 1000 < most := by omega
        have h0' : decide (most < 0) = false := decide_eq_false h0
        clear hnb h0
        go_wp2
        refine bodyPost_ret (v := .tuple #[.slice none 0 0, .int .i64 2]) (by simp [results, Tryd.results58, go_sem]) rfl ⟨none, 0, 0, by rw [HD.out], ?_, K1.out⟩
        rw [HD.out]
        exact IntsV.nil _
    · have HD : Hid (disC n ss s p c (btw 0 most 1000) = 0) := hid (by rw [hcode, hbt]; rfl)
      have hb01 := btw_iff.1 hbt
      have h0' : decide (most < 0) = false := by simp; omega
      have h1' : decide (1000 < most) = false := by simp; omega
      obtain ⟨A', cap', he, hn9, b, off, hlt, hA, hc⟩ := hv
      simp only [Value.slice.injEq] at he
      obtain ⟨rfl, rfl, rfl⟩ := he
      have hln := HLN.out
      obtain rfl := hA (by omega)
      have hc' : ∀ i, i < n → w1.cell? ⟨b, off + i, none⟩ = some (.int .i64 (bF l i)) := fun i hi => hc i (by omega)
      rw [hln]
      have HC := hid (And.intro (hlt (by omega)) hc')
      clear hcode hbt hb01 hlt hA hc hc' hn9 hz4 hln
      go_wp2
      clear h0' h1'
      go_loopw [12, 33] (fun v x wr => ∃ k : Nat, k ≤ n ∧ x = .int .i64 (k : Int) ∧ Hid (wr.ownsRow w1.heap.size 3 1 v (nearL k (bF l) most).length ((nearL k (bF l) most).map (Value.int .i64))) ∧ Hid (Below w1.heap.size w1 wr)) (fun _ x _ => n - (intOf x).toNat)
      case atStart => exact ⟨0, by omega, rfl, hid (World.ownsRow_nil _ _ _ _), hid (Below.refl _ _)⟩
      case round =>
        obtain ⟨k, hk, rfl, HO, HW1⟩ := hrel
        obtain ⟨wk, rfl⟩ : ∃ wk : World, wk = wr := ⟨_, rfl⟩
        obtain ⟨A2, cap2, rfl⟩ := own_shape HO.out
        have hlen := nearL_len k (bF l) most
        by_cases hkn : k < n
        · have ck := (HW1.out.cell (p := ⟨b, off + k, none⟩) HC.out.1).trans (HC.out.2 k hkn)
          obtain ⟨x, hx⟩ : ∃ x, bF l k = x := ⟨_, rfl⟩
          rw [hx] at ck
          by_cases hle : x ≤ most
          · have hin := nearL_in (n := k) (f := bF l) (most := most) (by rw [hx]; exact hle)
            have HIN := hid hin
            clear hin hx
            go_wp2_with (at_builtin; refine wpList_append_own _ rfl _ _ 25 rfl w1.heap.size 3 j0 (.int .i64 0) 1 8 Tryd.underlying25 hj0 hy0 hy1 hy2 rfl (by decide) _ _ _ rfl (HO.out.alloc _) ⟨wk.heap.size, 0, none⟩ 1 1 [.int .i64 (k : Int)] rfl rfl (cell_one_new _ _ _) (by simp [Value.oneCell']) (by unfold maxLen; omega) (by omega) (by have := HW1.out.size; simp; omega) ?_; intro v' w9 hown' hgrow _)
            have hb9 := own_below (HO.out.alloc _) hgrow (HW1.out.alloc HW1.out.size _) (Nat.le_refl _) (by have := HW1.out.size; simp; omega)
            have HE : Hid (w9.ownsRow w1.heap.size 3 1 v' (nearL (k + 1) (bF l) most).length ((nearL (k + 1) (bF l) most).map (Value.int .i64)) ∧ Below w1.heap.size w1 w9) := hid (by
              refine ⟨?_, hb9⟩
              rw [HIN.out, List.length_append, List.map_append]
              exact hown')
            clear hown' hgrow hb9 HO HW1
            go_roundw
            case rel => exact ⟨k + 1, by omega, by go_num, hid HE.out.1, hid HE.out.2⟩
            case measure => simp [intOf]; omega
          · have hout := nearL_out (n := k) (f := bF l) (most := most) (by rw [hx]; exact hle)
            have HOUT := hid hout
            have hld : decide (x ≤ most) = false := decide_eq_false hle
            clear hout hx hle
            go_wp2
            go_roundw
            case rel => exact ⟨k + 1, by omega, by go_num, by rw [HOUT.out]; exact HO, HW1⟩
            case measure => simp [intOf]; omega
        · obtain rfl : k = n := by omega
          go_wp2
          refine bodyPost_ret (v := .tuple #[.slice A2 (nearL k (bF l) most).length cap2, .int .i64 0]) (by simp [results, Tryd.results58, go_sem]) rfl ⟨A2, _, cap2, by rw [HD.out], ?_, btr K1.out HW1.out K1.out.size⟩
          rw [HD.out, if_pos rfl]
          exact IntsV.own HO.out rfl (by omega)
  · have HZ := hid hz
    have HD := hid (disC_right (right := btw 0 most 1000) hz)
    have hne : (disC n ss s p c true != 0) = true := by simpa using hz
    clear hv hz
    go_wp2
    refine bodyPost_ret (v := .tuple #[.slice none 0 0, .int .i64 (disC n ss s p c true)]) (by simp [results, Tryd.results58, go_sem]) rfl ⟨none, 0, 0, by rw [HD.out], ?_, K1.out⟩
    rw [HD.out, if_neg HZ.out]
    exact IntsV.nil _
set_option maxRecDepth 100000 in
set_option maxHeartbeats 4000000 in
/-- Within -/
theorem withinF_any (A : Option Addr) (n cap : Nat) (ss : Nat → ByteArray) (s : ByteArray) (p c most : Int) (w : World) (hss : StrsAt w A n ss) (hs : s.size ≤ 9223372036854775807) :
    Calls Tryd.prog 57 #[.slice A n cap, .string s, .agg #[.int .i64 p, .int .i64 c], .int .i64 most] w (DisR w (disC n ss s p c (btw 0 most 1000)) (nearL n (dsF ss s p c) most)) := by
  have hb0 := hid (box_bel w (.cells #[.int .i64 p, .int .i64 c] 24))
  have HB := hid (Blk.new w 24 #[.int .i64 p, .int .i64 c])
  have HL := hid (hss.below hb0.out)
  have HS := hid hs
  obtain ⟨j0, hj0, hy0, hy1, hy2⟩ := info_parts info3
  clear hss hs
  rw [near_l]
  have HBW := hid fun wx => between_any 0 most 1000 wx
  obtain ⟨r, hr⟩ : ∃ r, btw 0 most 1000 = r := ⟨_, rfl⟩
  rw [hr] at HBW ⊢
  have HDI := hid fun wx h => distances_any A n cap ss s p c r wx h HS.out
  obtain ⟨l, hl⟩ : ∃ l, dsL n (dsF ss s p c) = l := ⟨_, rfl⟩
  have HLN : Hid (l.length = n) := hid (by rw [← hl, dsL_len])
  rw [hl] at HDI ⊢
  clear hl hr
  have c0 := HB.out.cell 0
  have c1 := HB.out.cell 1
  simp only [List.getElem?_toArray, List.getElem?_cons_zero, List.getElem?_cons_succ] at c0 c1
  go_enter Tryd.func57, Tryd.ntmps57
  go_upto_region 1 with fail
  go_cut [10, 11] from 15 to 23 (fun x y w1 => ∃ A1 m cap1, x = .slice A1 m cap1 ∧ y = .int .i64 (disC n ss s p c r) ∧ Hid (IntsV w1 (.slice A1 m cap1) (if disC n ss s p c r = 0 then l else []) ∧ Below w.heap.size w w1))
  case first =>
    go_region_with (first | (go_at_call 61; refine (HBW.out _).mono ?_; rintro e w' ⟨rfl, rfl⟩) | (go_at_call 65; refine (HDI.out _ (HL.out.below (bdr _ 1))).mono ?_; rintro e w1 ⟨A1, m, cap1, rfl, hv, hb⟩))
    all_goals
      go_wp2
      go_meet
      exact ⟨A1, m, cap1, rfl, rfl, hid ⟨hv, btr (bdn hb0.out 1) hb hb0.out.size⟩⟩
  case rest =>
    obtain ⟨A1, m, cap1, rfl, rfl, HH⟩ := hcut
    obtain ⟨w1, rfl⟩ : ∃ wq : World, wq = wc := ⟨_, rfl⟩
    obtain ⟨hv, hK1⟩ := HH.out
    have K1 := hid hK1
    clear HH hK1 c0 c1 hb0 HB
    by_cases hz : disC n ss s p c r = 0
    · have hz4 := disC_zero hz
      have hn := (arB_true hz4.1).1
      have HD := hid hz
      rw [if_pos hz] at hv
      rw [hz]
      obtain ⟨A', cap', he, hn9, b, off, hlt, hA, hc⟩ := hv
      simp only [Value.slice.injEq] at he
      obtain ⟨rfl, rfl, rfl⟩ := he
      have hln := HLN.out
      obtain rfl := hA (by omega)
      have hc' : ∀ i, i < n → w1.cell? ⟨b, off + i, none⟩ = some (.int .i64 (bF l i)) := fun i hi => hc i (by omega)
      rw [hln]
      have HC := hid (And.intro (hlt (by omega)) hc')
      clear hz hlt hA hc hc' hn9 hz4 hln
      go_wp2
      go_loopw [12, 29] (fun v x wr => ∃ k : Nat, k ≤ n ∧ x = .int .i64 (k : Int) ∧ Hid (wr.ownsRow w1.heap.size 3 1 v (nearL k (bF l) most).length ((nearL k (bF l) most).map (Value.int .i64))) ∧ Hid (Below w1.heap.size w1 wr)) (fun _ x _ => n - (intOf x).toNat)
      case atStart => exact ⟨0, by omega, rfl, hid (World.ownsRow_nil _ _ _ _), hid (Below.refl _ _)⟩
      case round =>
        obtain ⟨k, hk, rfl, HO, HW1⟩ := hrel
        obtain ⟨wk, rfl⟩ : ∃ wk : World, wk = wr := ⟨_, rfl⟩
        obtain ⟨A2, cap2, rfl⟩ := own_shape HO.out
        have hlen := nearL_len k (bF l) most
        by_cases hkn : k < n
        · have ck := (HW1.out.cell (p := ⟨b, off + k, none⟩) HC.out.1).trans (HC.out.2 k hkn)
          obtain ⟨x, hx⟩ : ∃ x, bF l k = x := ⟨_, rfl⟩
          rw [hx] at ck
          by_cases hle : x ≤ most
          · have hin := nearL_in (n := k) (f := bF l) (most := most) (by rw [hx]; exact hle)
            have HIN := hid hin
            clear hin hx
            go_wp2_with (at_builtin; refine wpList_append_own _ rfl _ _ 25 rfl w1.heap.size 3 j0 (.int .i64 0) 1 8 Tryd.underlying25 hj0 hy0 hy1 hy2 rfl (by decide) _ _ _ rfl (HO.out.alloc _) ⟨wk.heap.size, 0, none⟩ 1 1 [.int .i64 (k : Int)] rfl rfl (cell_one_new _ _ _) (by simp [Value.oneCell']) (by unfold maxLen; omega) (by omega) (by have := HW1.out.size; simp; omega) ?_; intro v' w9 hown' hgrow _)
            have hb9 := own_below (HO.out.alloc _) hgrow (HW1.out.alloc HW1.out.size _) (Nat.le_refl _) (by have := HW1.out.size; simp; omega)
            have HE : Hid (w9.ownsRow w1.heap.size 3 1 v' (nearL (k + 1) (bF l) most).length ((nearL (k + 1) (bF l) most).map (Value.int .i64)) ∧ Below w1.heap.size w1 w9) := hid (by
              refine ⟨?_, hb9⟩
              rw [HIN.out, List.length_append, List.map_append]
              exact hown')
            clear hown' hgrow hb9 HO HW1
            go_roundw
            case rel => exact ⟨k + 1, by omega, by go_num, hid HE.out.1, hid HE.out.2⟩
            case measure => simp [intOf]; omega
          · have hout := nearL_out (n := k) (f := bF l) (most := most) (by rw [hx]; exact hle)
            have HOUT := hid hout
            have hld : decide (x ≤ most) = false := decide_eq_false hle
            clear hout hx hle
            go_wp2
            go_roundw
            case rel => exact ⟨k + 1, by omega, by go_num, by rw [HOUT.out]; exact HO, HW1⟩
            case measure => simp [intOf]; omega
        · obtain rfl : k = n := by omega
          go_wp2
          refine bodyPost_ret (v := .tuple #[.slice A2 (nearL k (bF l) most).length cap2, .int .i64 0]) (by simp [results, Tryd.results57, go_sem]) rfl ⟨A2, _, cap2, by rw [HD.out], ?_, btr K1.out HW1.out K1.out.size⟩
          rw [HD.out, if_pos rfl]
          exact IntsV.own HO.out rfl (by omega)
    · have HZ := hid hz
      have hne : (disC n ss s p c r != 0) = true := by simpa using hz
      clear hv hz
      go_wp2
      refine bodyPost_ret (v := .tuple #[.slice none 0 0, .int .i64 (disC n ss s p c r)]) (by simp [results, Tryd.results57, go_sem]) rfl ⟨none, 0, 0, rfl, ?_, K1.out⟩
      rw [if_neg HZ.out]
      exact IntsV.nil _
end Go.Proofs.YtmhlgnhfbickdaaDoor
